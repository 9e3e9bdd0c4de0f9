/- Parts of the proof. -/
import Derived.Test.YtdhnndleffachaaGreatDoorP06
import Derived.Test.YtdhnndleffachaaGreatDoorP05
set_option linter.all false
namespace Go.Proofs.YtdhnndleffachaaGreatDoor
open Go.AI
variable {A B:SV} {M R S a ai b i j k lim n pv s:Nat} {bs:List GB} {cap f κ:Nat->Nat} {e:Env} {h h' h0:ae} {r:XR} {rs:List XR} {t:Int} {v y:Value} {x:Int×(Bool×Int)} {xs:List GI}
structure qu (h:ae) (M ai:Nat) (κ cap:Nat->Nat):Prop where
 V:Cz h κ cap ai
 new: ∀b,κ b≠0->κ b=1/\M<=b/\b<h.next
theorem qu.grow {S:Nat->Prop} {h h':ae} {M ai:Nat} {κ cap:Nat->Nat} (w:qu h M ai κ cap) (ok:bu h) (g:ab S h h') (hS: ∀b,S b->κ b=0):qu h' M ai κ cap:=
 ⟨w.V.grow ok g (fun b hs=>by have:=hS b hs;omega),fun b hb=>by have:=w.new b hb;have:=g.next;omega⟩
def CB (f:Nat->Nat) (A:SV) (k:Nat) (b:Nat):Nat:=match A.a with
 |some p=>if p.block=b then k else f b
 |none=>f b
theorem pZ (h:A.a=some ⟨b,0,none⟩):CB f A k b=k:=by unfold CB;rw[h];simp
theorem kJ {k b b':Nat} (h:A.a=some ⟨b,0,none⟩) (n:b≠b'):CB f A k b'=f b':=by unfold CB;rw[h];simp[n]
theorem qu.add {F:SV} {vs:List (Bool×Int)} (w:qu h M ai κ cap) (ok:bu h) (g:ab aG h h') (hM:M<=h.next) (hA:e_ cr h' F vs) (hF: ∀b,ax F.v b->h.next<=b) (hv: ∀v∈vs,gK ai v) (hc:F.c=F.l):
  ∃κ' iK:Nat->Nat,qu h' M ai κ' iK/\VA κ' iK F/\(∀b,κ b≠0->κ' b=κ b/\iK b=cap b)/\ ∀b,b<h.next->κ' b=κ b:=by
 have w':=w.grow ok g (fun _ h=>h.elim);obtain⟨hl,hA⟩:=hA;rcases hA with⟨ha,hc,rfl⟩|⟨b,o,s,bh,ha,hc,hb,ho⟩
 .exact⟨κ,cap,w',⟨by rw[hl];simp,.inl ⟨ha,hc⟩⟩,fun b _=>⟨rfl,rfl⟩,fun b _=>rfl⟩
 .have hr:bh=[]:=KF (by omega);subst hr;have iz:h.next<=b:=hF b (bU ha);have ne: ∀b',κ b'≠0->b≠b':=fun b' iy e=>by have:=(w.new b' iy).2.2;omega
  have nd:=w'.new;refine⟨CB κ F 1,CB cap F vs.length,⟨fun b' iy=> ?_,fun b' iy=> ?_⟩,⟨by omega,.inr ⟨b,ha,pZ ha,by rw[pZ ha,hc];rfl⟩⟩,fun b' iy=>⟨kJ ha (ne b' iy),kJ ha (ne b' iy)⟩,fun b' iy=>kJ ha (by omega)⟩
  .by_cases e:b=b'
   .subst e;exact⟨vs,o,s,by simpa using hb,ho,by rw[pZ ha],hv⟩
   .rw[kJ ha e] at iy ⊢;exact w'.V b' iy
  .by_cases e:b=b'
   .subst e;exact⟨pZ ha,by omega,g.ok.wf _ _ hb⟩
   .rw[kJ ha e] at iy ⊢;exact nd b' iy
def aao (κ cap:Nat->Nat) (q:Int×SV) (p:GP):Prop:=q.1=p.dst/\VA κ cap q.2/\q.2.l=p.row.length
def Po (h0:ae) (q:Int×SV) (p:GP):Prop:=q.1=p.dst/\SliceR vR 2 h0 q.2.v p.row
def CpI (h0 h:ae) (e:Env) (M X s0:Nat) (xc:List Value) (P':SV) (te:List GP) (ai:Nat) (κ0 ub:Nat->Nat) (m:Nat) (e':Env) (h':ae):Prop:=
 ∃(j:Nat) (κ cap:Nat->Nat) (qs:List (Int×SV)),m=te.length-j/\j<=te.length/\aw [5,6,28,29,30,31,32,33,34,35,36,37,38,39,40,41] e e'/\Env.get e' 28= .int .i64 j/\ab (ax P'.v) h h'/\h'.tr.get X=some (.aA xc false 0 s0)/\e_ jR h' P' qs/\qs.length=te.length/\
  (∀(i:Nat) (q:Int×SV) (p:GP),qs[i]? =some q->te[i]? =some p->(i<j->aao κ cap q p)/\(j<=i->Po h0 q p))/\qu h' M ai κ cap/\(∀b,b<h.next->κ b=κ0 b)/\ ∀b,κ0 b≠0->κ b=κ0 b/\cap b=ub b
theorem QL (jG:bu h0) (g0:ab aG h0 h) {M X s0 ai:Nat} {P' L T:SV} {kind:Int} {on:Bool×Int} {qs:List (Int×SV)} {te:List GP} {κ cap:Nat->Nat} (hP:e_ jR h P' qs) (cn:qs.length=te.length) (hq: ∀(i:Nat) (q:Int×SV) (p:GP),qs[i]? =some q->te[i]? =some p->Po h0 q p)
  (vb: ∀p∈te,p.row.length<2000000/\ ∀v∈p.row,gK ai v) (va:te.length<1000000) (hM0:h0.next<=M) (hMh:M<=h.next) (hPM: ∀b,ax P'.v b->M<=b/\κ b=0/\b≠X) (hX:h.tr.get X=some (.aA [P'.v,L.v,.int .i64 kind,.bool on.1,.int .i64 on.2,T.v] false 0 s0)) (W:qu h M ai κ cap)
  {e:Env} {Q:aP->Env->ae->Prop} (f4:Env.get e 4= .pointer (some ⟨X,0,none⟩)) (f26:Env.get e 26=P'.v) (f27:Env.get e 27= .int .i64 te.length) (f28:Env.get e 28= .int .i64 0)
  (C: ∀e' h' κ' iK qs',aw [5,6,28,29,30,31,32,33,34,35,36,37,38,39,40,41] e e'->ab (ax P'.v) h h'->h'.tr.get X=some (.aA [P'.v,L.v,.int .i64 kind,.bool on.1,.int .i64 on.2,T.v] false 0 s0)->e_ jR h' P' qs'->qs'.length=te.length->(∀(i:Nat) (q:Int×SV) (p:GP),qs'[i]? =some q->te[i]? =some p->aao κ' iK q p)->qu h' M ai κ' iK->(∀b,b<h.next->κ' b=κ b)->(∀b,κ b≠0->κ' b=κ b/\iK b=cap b)->Q (.exit 2) e' h'):
  aB FF (.loop rE) e h Q:=by
 have jl:=hP.len;refine aB.loop (CpI h0 h e M X s0 [P'.v,L.v,.int .i64 kind,.bool on.1,.int .i64 on.2,T.v] P' te ai κ cap) ?_ (n:=te.length)
  ⟨0,κ,cap,qs,rfl,by omega,aw.refl _ _,f28,.refl g0.ok,hX,hP,cn,fun i q p h1 h2=>⟨fun h=>by omega,fun _=>hq i q p h1 h2⟩,W,fun _ _=>rfl,fun _ _=>⟨rfl,rfl⟩⟩
 rintro m e' h' ⟨j,κ1,xT,qs1,rfl,hj,K,HB,g,mL,YP,G1,H1,W1,VG,AW⟩;have q4:=K.at f4;have Qg:=K.at f26;have TA:=K.at f27;have bX:=g.ok;have gg:ab aG h0 h':=g0.trans' g (fun _ _ h=>h) (fun x hx e=>by have:=(hPM x e).1;omega);unfold rE;by_cases aS:j<te.length
 .have wj:=wrap_i64 ((j:Int)+1) (by omega) (by omega);obtain⟨p,hp⟩: ∃p,te[j]? =some p:=⟨_,aX aS⟩;obtain⟨q,hqj⟩: ∃q,qs1[j]? =some q:=⟨_,aX (by omega)⟩;obtain⟨hq1,Y9⟩:=(H1 j q p hqj hp).2 (dK _);obtain⟨uJ,Ze⟩:=vb p (dk hp);obtain⟨b,cs,o,s,oZ,hb,YY,eH,dy,fH⟩:=YP.el hqj;have NI:=YP.len;have r0:=dy 0 2 (by decide);have oX:=bX.bA mL;have Ei:=bX.st _ _ _ _ _ mL;have ob:=bX.bA hb;have nX: ¬X=b:=fun e=>(hPM b (bU oZ)).2.2 e.symm;simp[-ag] at r0;have xX:=mL;simp at xX;rw[oZ,NI,G1] at xX;simp at Qg;rw[oZ,NI,G1] at Qg;have Vy:s0<=h'.clock+1:=by omega
  simp[q4,Qg,TA,HB,aS,r0,-ag,av,bg,aI,oX,aq xX,ay];refine aQ.cut (fun h5=>ab aG h' h5) ?_ ?_
  .exact((ab.refl bX).var _ _).tick
  intro h5 g5;have W5:=W1.grow bX g5 (fun _ h=>h.elim);have rV:=g5.get bX xX (fun h=>h);have YV:=g5.get bX hb (fun h=>h);have u7:=gg.trans g5;refine aQ.call (V:=tp cr h5 p.row) (by simpa using jQ cr (bytes:=16) gQ rfl (by decide) u7.ok ((abh Y9).bt jG u7) uJ) ?_;rintro _ h6 ⟨g6,F,rfl,hF,KI,hFc⟩;have hM5:M<=h5.next:=by have:=g.next;have:=g5.next;omega
  obtain⟨κ2,Kl,W6,hVF,VH,hκ3⟩:=W5.add u7.ok g6 hM5 hF KI Ze hFc;have yp:=g6.get u7.ok rV (fun h=>h);have Th:=g6.get u7.ok YV (fun h=>h);have Bm:=eH 1 1 (by decide);simp at Bm;simp[yp,Vy,aS,Th,Bm,HB,wj,q4];have gw:ab (· =b) h6 (put h6 b (j*2+1) cs [.slice F.a F.l F.c] o):=aM g6.ok Th;have nb: ∀b',b'=b->κ2 b'=0:=by
   rintro b' rfl;have h1:=(hPM b' (bU oZ)).2.1;have hbh:b'<h.next:=by have:=hP.bA g0.ok (bU oZ);exact this
   rw[hκ3 b' (by have:=g.next;have:=g5.next;omega),VG b' hbh,h1]
  refine⟨te.length-(j+1),by omega,j+1,κ2,Kl,qs1.set j (q.1,F),rfl,aS,?_,by simp,?_,?_,?_,by simp[G1],?_,?_,?_,?_⟩
  .repeat (refine aw.set ?_)
   exact K
  .exact((g.trans g5.bt).trans g6.bt).trans (gw.bJ (fun x _ e=>e▸bU oZ))
  .have:=gw.get g6.ok yp nX;simpa [oZ,NI,G1] using this
  .exact fH (q.1,F) 1 [F.v] (by simp) rfl _ ⟨_,aD _ _ _ _ _ _⟩
  .intro i q' p' h1 h2;rw[eR] at h1;by_cases e:j=i
   .subst e;rw[aU rfl,aU (by omega)] at h1;cases h1;rw[hp] at h2;cases h2;exact⟨fun _=>⟨hq1,hVF,hF.len⟩,fun h=>by omega⟩
   .rw[aT e] at h1;obtain⟨a1,a2⟩:=H1 i q' p' h1 h2;refine⟨fun h=> ?_,fun h=>a2 (by omega)⟩;obtain⟨b1,b2,b3⟩:=a1 (by omega);exact⟨b1,b2.congr (fun b hb=>by have:=VH b (by omega);omega),b3⟩
  .exact W6.grow g6.ok gw nb
  .intro b' iy;rw[hκ3 b' (by have:=g.next;have:=g5.next;omega),VG b' iy]
  .intro b' iy;obtain⟨c1,c2⟩:=AW b' iy;obtain⟨c3,c4⟩:=VH b' (by omega);exact⟨by omega,by omega⟩
 .have:j=te.length:=by omega
  subst this;simp[TA,HB];exact C _ _ κ1 xT qs1 (K.set) g mL YP G1 (fun i q p h1 h2=>(H1 i q p h1 h2).1 (bY.mp h2).1) W1 VG AW
def Gu (q:XI) (p:GI):Prop:=q.op=p.op/\q.dst=p.dst/\q.a=p.a/\q.b=p.b/\q.fn=p.fn
def aas (κ cap:Nat->Nat) (q:XI) (p:GI):Prop:=Gu q p/\VA κ cap q.args/\q.args.l=p.args.length
def Pt (h0:ae) (q:XI) (p:GI):Prop:=Gu q p/\SliceR vR 2 h0 q.args.v p.args
def CxI (h0 h:ae) (e:Env) (M X s0:Nat) (xc:List Value) (L':SV) (xs:List GI) (ai:Nat) (κ0 ub:Nat->Nat) (m:Nat) (e':Env) (h':ae):Prop:=
 ∃(j:Nat) (κ cap:Nat->Nat) (qs:List XI),m=xs.length-j/\j<=xs.length/\aw [7,8,49,50,51,52,53,54,55,56,57,58,59,60,61,62] e e'/\Env.get e' 49= .int .i64 j/\ab (ax L'.v) h h'/\h'.tr.get X=some (.aA xc false 0 s0)/\e_ mJ h' L' qs/\qs.length=xs.length/\
  (∀(i:Nat) (q:XI) (p:GI),qs[i]? =some q->xs[i]? =some p->(i<j->aas κ cap q p)/\(j<=i->Pt h0 q p))/\qu h' M ai κ cap/\(∀b,b<h.next->κ b=κ0 b)/\ ∀b,κ0 b≠0->κ b=κ0 b/\cap b=ub b
theorem QK (jG:bu h0) (g0:ab aG h0 h) {M X s0 ai:Nat} {L' P T:SV} {kind:Int} {on:Bool×Int} {qs:List XI} {κ cap:Nat->Nat} (hP:e_ mJ h L' qs) (cn:qs.length=xs.length) (hq: ∀(i:Nat) (q:XI) (p:GI),qs[i]? =some q->xs[i]? =some p->Pt h0 q p)
  (vb: ∀p∈xs,p.args.length<2000000/\ ∀v∈p.args,gK ai v) (va:xs.length<1000000) (hM0:h0.next<=M) (hMh:M<=h.next) (hPM: ∀b,ax L'.v b->M<=b/\κ b=0/\b≠X) (hX:h.tr.get X=some (.aA [P.v,L'.v,.int .i64 kind,.bool on.1,.int .i64 on.2,T.v] false 0 s0)) (W:qu h M ai κ cap)
  {e:Env} {Q:aP->Env->ae->Prop} (f4:Env.get e 4= .pointer (some ⟨X,0,none⟩)) (f26:Env.get e 47=L'.v) (f27:Env.get e 48= .int .i64 xs.length) (f28:Env.get e 49= .int .i64 0)
  (C: ∀e' h' κ' iK qs',aw [7,8,49,50,51,52,53,54,55,56,57,58,59,60,61,62] e e'->ab (ax L'.v) h h'->h'.tr.get X=some (.aA [P.v,L'.v,.int .i64 kind,.bool on.1,.int .i64 on.2,T.v] false 0 s0)->e_ mJ h' L' qs'->qs'.length=xs.length->(∀(i:Nat) (q:XI) (p:GI),qs'[i]? =some q->xs[i]? =some p->aas κ' iK q p)->qu h' M ai κ' iK->(∀b,b<h.next->κ' b=κ b)->(∀b,κ b≠0->κ' b=κ b/\iK b=cap b)->Q (.exit 4) e' h'):
  aB FF (.loop rD) e h Q:=by
 have jl:=hP.len;refine aB.loop (CxI h0 h e M X s0 [P.v,L'.v,.int .i64 kind,.bool on.1,.int .i64 on.2,T.v] L' xs ai κ cap) ?_ (n:=xs.length)
  ⟨0,κ,cap,qs,rfl,by omega,aw.refl _ _,f28,.refl g0.ok,hX,hP,cn,fun i q p h1 h2=>⟨fun h=>by omega,fun _=>hq i q p h1 h2⟩,W,fun _ _=>rfl,fun _ _=>⟨rfl,rfl⟩⟩
 rintro m e' h' ⟨j,κ1,xT,qs1,rfl,hj,K,HB,g,mL,YP,G1,H1,W1,VG,AW⟩;have q4:=K.at f4;have Qg:=K.at f26;have TA:=K.at f27;have bX:=g.ok;have gg:ab aG h0 h':=g0.trans' g (fun _ _ h=>h) (fun x hx e=>by have:=(hPM x e).1;omega);unfold rD;by_cases aS:j<xs.length
 .have wj:=wrap_i64 ((j:Int)+1) (by omega) (by omega);obtain⟨p,hp⟩: ∃p,xs[j]? =some p:=⟨_,aX aS⟩;obtain⟨q,hqj⟩: ∃q,qs1[j]? =some q:=⟨_,aX (by omega)⟩;obtain⟨hq1,Y9⟩:=(H1 j q p hqj hp).2 (dK _);obtain⟨uJ,Ze⟩:=vb p (dk hp);obtain⟨b,cs,o,s,oZ,hb,YY,eH,dy,fH⟩:=YP.el hqj;have NI:=YP.len;have r0:=dy 0 8 (by decide);have oX:=bX.bA mL;have Ei:=bX.st _ _ _ _ _ mL;have ob:=bX.bA hb;have nX: ¬X=b:=fun e=>(hPM b (bU oZ)).2.2 e.symm;simp[-ag] at r0;have xX:=mL;simp at xX;rw[oZ,NI,G1] at xX;simp at Qg;rw[oZ,NI,G1] at Qg;have Vy:s0<=h'.clock+1:=by omega
  simp[q4,Qg,TA,HB,aS,r0,-ag,av,bg,aI,oX,aq xX,ay];refine aQ.cut (fun h5=>ab aG h' h5) ?_ ?_
  .exact((ab.refl bX).var _ _).tick
  intro h5 g5;have W5:=W1.grow bX g5 (fun _ h=>h.elim);have rV:=g5.get bX xX (fun h=>h);have YV:=g5.get bX hb (fun h=>h);have u7:=gg.trans g5;refine aQ.call (V:=tp cr h5 p.args) (by simpa using jQ cr (bytes:=16) gQ rfl (by decide) u7.ok ((abh Y9).bt jG u7) uJ) ?_;rintro _ h6 ⟨g6,F,rfl,hF,KI,hFc⟩;have hM5:M<=h5.next:=by have:=g.next;have:=g5.next;omega
  obtain⟨κ2,Kl,W6,hVF,VH,hκ3⟩:=W5.add u7.ok g6 hM5 hF KI Ze hFc;have yp:=g6.get u7.ok rV (fun h=>h);have Th:=g6.get u7.ok YV (fun h=>h);have Bm:=eH 7 1 (by decide);simp at Bm;simp[yp,Vy,aS,Th,Bm,HB,wj,q4];have gw:ab (· =b) h6 (put h6 b (j*8+7) cs [.slice F.a F.l F.c] o):=aM g6.ok Th;have nb: ∀b',b'=b->κ2 b'=0:=by
   rintro b' rfl;have h1:=(hPM b' (bU oZ)).2.1;have hbh:b'<h.next:=by have:=hP.bA g0.ok (bU oZ);exact this
   rw[hκ3 b' (by have:=g.next;have:=g5.next;omega),VG b' hbh,h1]
  refine⟨xs.length-(j+1),by omega,j+1,κ2,Kl,qs1.set j { q with args:=F },rfl,aS,?_,by simp,?_,?_,?_,by simp[G1],?_,?_,?_,?_⟩
  .repeat (refine aw.set ?_)
   exact K
  .exact((g.trans g5.bt).trans g6.bt).trans (gw.bJ (fun x _ e=>e▸bU oZ))
  .have:=gw.get g6.ok yp nX;simpa [oZ,NI,G1] using this
  .exact fH { q with args:=F } 7 [F.v] (by simp) rfl _ ⟨_,aD _ _ _ _ _ _⟩
  .intro i q' p' h1 h2;rw[eR] at h1;by_cases e:j=i
   .subst e;rw[aU rfl,aU (by omega)] at h1;cases h1;rw[hp] at h2;cases h2;exact⟨fun _=>⟨hq1,hVF,hF.len⟩,fun h=>by omega⟩
   .rw[aT e] at h1;obtain⟨a1,a2⟩:=H1 i q' p' h1 h2;refine⟨fun h=> ?_,fun h=>a2 (by omega)⟩;obtain⟨b1,b2,b3⟩:=a1 (by omega);exact⟨b1,b2.congr (fun b hb=>by have:=VH b (by omega);omega),b3⟩
  .exact W6.grow g6.ok gw nb
  .intro b' iy;rw[hκ3 b' (by have:=g.next;have:=g5.next;omega),VG b' iy]
  .intro b' iy;obtain⟨c1,c2⟩:=AW b' iy;obtain⟨c3,c4⟩:=VH b' (by omega);exact⟨by omega,by omega⟩
 .have:j=xs.length:=by omega
  subst this;simp[TA,HB];exact C _ _ κ1 xT qs1 (K.set) g mL YP G1 (fun i q p h1 h2=>(H1 i q p h1 h2).1 (bY.mp h2).1) W1 VG AW
structure InB (ai:Nat) (b:GB):Prop where
 lp:b.eS.length<1000000
 ll:b.list.length<1000000
 lt:b.to.length<1000000
 ph: ∀p∈b.eS,(0<=p.dst/\p.dst<ai)/\p.row.length<2000000/\ ∀v∈p.row,gK ai v
 li: ∀x∈b.list,x.dst<ai/\gK ai x.a/\gK ai x.b/\x.args.length<2000000/\ ∀v∈x.args,gK ai v
 on:gK ai b.on
structure RD (r:XR) (b:GB):Prop where
 kind:r.kind=b.kind
 on:r.on=b.on
 to:r.ts=b.to
 pl:r.ps.length=b.eS.length
 ps: ∀(i:Nat) (q:Int×SV) (p:GP),r.ps[i]? =some q->b.eS[i]? =some p->q.1=p.dst/\q.2.l=p.row.length
 ll:r.ls.length=b.list.length
 ls: ∀(i:Nat) (q:XI) (p:GI),r.ls[i]? =some q->b.list[i]? =some p->Gu q p/\q.args.l=p.args.length
structure Pu (h0:ae) (y:XR) (b:GB):Prop where
 kind:y.kind=b.kind
 on:y.on=b.on
 P:SliceR (pR h0) 2 h0 y.P.v b.eS
 L:SliceR (iR h0) 8 h0 y.L.v b.list
 T:SliceR nR 1 h0 y.T.v b.to
theorem aa6 {xs:List Int} (s:SliceR nR 1 h v xs):bk bp h v xs:=by
 obtain⟨ys,hl,s',H⟩:=SliceR.pick (E:=bp) (Q:=fun y x=>y=x) s (fun c x e=>⟨x,e,rfl⟩);have:ys=xs:=zV fun i=>by
  rcases AV i xs.length with hi|hi
  .have h1:xs[i]? =some xs[i]:=aX hi;have h2:ys[i]? =some (ys[i]'(by omega)):=aX (by omega);rw[h2,H i _ _ h2 h1,h1]
  .rw[uI (by omega),uI (by omega)]
 exact this▸s'
theorem aih {xs:List GP} (s:SliceR (pR h) 2 h v xs): ∃qs:List (Int×SV),qs.length=xs.length/\bk jR h v qs/\ ∀(i:Nat) (q:Int×SV) (p:GP),qs[i]? =some q->xs[i]? =some p->Po h q p:=
 SliceR.pick (E:=jR) (Q:=Po h) s (fun c x ⟨A,e,hA⟩=>⟨(x.dst,A),e,rfl,hA⟩)
theorem ahX (s:SliceR (iR h) 8 h v xs): ∃qs:List XI,qs.length=xs.length/\bk mJ h v qs/\ ∀(i:Nat) (q:XI) (p:GI),qs[i]? =some q->xs[i]? =some p->Pt h q p:=
 SliceR.pick (E:=mJ) (Q:=Pt h) s (fun c x ⟨A,e,hA⟩=>⟨⟨x.op,x.dst,x.a,x.b,x.fn,A⟩,e,⟨rfl,rfl,rfl,rfl,rfl⟩,hA⟩)
theorem afJ {xs:List GB} (s:SliceR (bR h) 6 h v xs): ∃ys:List XR,ys.length=xs.length/\bk fe h v ys/\ ∀(i:Nat) (y:XR) (b:GB),ys[i]? =some y->xs[i]? =some b->Pu h y b:=
 SliceR.pick (E:=fe) (Q:=Pu h) s (fun c x ⟨P,L,T,e,sP,sL,sT⟩=>⟨⟨P,L,T,x.kind,x.on,[],[],[]⟩,e,rfl,rfl,sP,sL,sT⟩)
theorem aoE (W:qu h M ai κ cap) (ok:bu h) {P L T:SV} {kind:Int} {on:Bool×Int} {ps:List (Int×SV)} {ls:List XI} {ts:List Int} (hP:e_ jR h P ps) (hL:e_ mJ h L ls) (hT:e_ bp h T ts)
  (nP: ∀b,ax P.v b->M<=b/\κ b=0/\ ¬ax L.v b/\ ¬ax T.v b) (nL: ∀b,ax L.v b->M<=b/\κ b=0/\ ¬ax T.v b) (nT: ∀b,ax T.v b->M<=b/\κ b=0)
  (gM: ∀p∈ps,(0<=p.1/\p.1<ai)/\VA κ cap p.2) (JQ: ∀x∈ls,x.dst<ai/\gK ai x.a/\gK ai x.b/\VA κ cap x.args) (hon:gK ai on):
  ∃κn:Nat->Nat,Pq h κn cap ai ⟨P,L,T,kind,on,ps,ls,ts⟩/\Cz h κn cap ai/\(∀b,κn b≠0->M<=b/\b<h.next)/\ ∀b,κn b=1->κ b=1:=by
 
 have Wt: ∀ {α:Type} (E:Enc α) (κ:Nat->Nat) (A:SV) (xs:List α) (k:Nat),e_ E h A xs-> ∃κ':Nat->Nat,(∀b,ax A.v b->κ' b=k)/\(∀b,¬ax A.v b->κ' b=κ b):=by
  intro α E κ A xs k hA;rcases hA.2 with⟨ha,_⟩|⟨b,_,_,_,ha,_⟩
  .exact⟨κ,fun b hb=>(fW ha hb).elim,fun b _=>rfl⟩
  .exact⟨CB κ A k,fun b' hb=>by rw[pa ha hb];exact pZ ha,fun b' hb=>kJ ha (fun e=>hb (e▸bU ha))⟩
 obtain⟨κ1,p1,q1⟩:=Wt jR κ P ps 3 hP;obtain⟨κ2,p2,q2⟩:=Wt mJ κ1 L ls 4 hL;obtain⟨κ3,p3,q3⟩:=Wt bp κ2 T ts 5 hT;have bA: ∀b,κ b≠0->κ3 b=κ b:=by intro b hb;have h1: ¬ax P.v b:=fun h=>hb (nP b h).2.1;have h2: ¬ax L.v b:=fun h=>hb (nL b h).2.1;have h3: ¬ax T.v b:=fun h=>hb (nT b h).2;rw[q3 b h3,q2 b h2,q1 b h1]
 have one: ∀b,κ b=1->κ3 b=1/\cap b=cap b:=fun b hb=>⟨by rw[bA b (by omega),hb],rfl⟩;refine⟨κ3,⟨hP,hL,hT,fun b hb=> ?_,fun b hb=> ?_,p3,fun p hp=>⟨(gM p hp).1,(gM p hp).2.congr one⟩,fun x hx=>⟨(JQ x hx).1,(JQ x hx).2.1,(JQ x hx).2.2.1,(JQ x hx).2.2.2.congr one⟩,hon⟩,fun b hb=> ?_,fun b hb=> ?_,fun b hb=> ?_⟩
 .have:=nP b hb;rw[q3 b this.2.2.2,q2 b this.2.2.1,p1 b hb]
 .have:=nL b hb;rw[q3 b this.2.2,p2 b hb]
 .by_cases h3:ax T.v b
  .rw[p3 b h3] at hb;omega
  .rw[q3 b h3] at hb;by_cases h2:ax L.v b
   .rw[p2 b h2] at hb;omega
   .rw[q2 b h2] at hb;by_cases h1:ax P.v b
    .rw[p1 b h1] at hb;omega
    .rw[q1 b h1] at hb;exact W.V b hb
 .by_cases h3:ax T.v b
  .exact⟨(nT b h3).1,hT.bA ok h3⟩
  .rw[q3 b h3] at hb;by_cases h2:ax L.v b
   .exact⟨(nL b h2).1,hL.bA ok h2⟩
   .rw[q2 b h2] at hb;by_cases h1:ax P.v b
    .exact⟨(nP b h1).1,hP.bA ok h1⟩
    .rw[q1 b h1] at hb;exact(W.new b hb).2
 .by_cases h3:ax T.v b
  .rw[p3 b h3] at hb;omega
  .rw[q3 b h3] at hb;by_cases h2:ax L.v b
   .rw[p2 b h2] at hb;omega
   .rw[q2 b h2] at hb;by_cases h1:ax P.v b
    .rw[p1 b h1] at hb;omega
    .rw[q1 b h1] at hb;exact hb
def CyI (h0 h1:ae) (M0 ai F R:Nat) (name:ByteArray) (p r:Int) (B':SV) (bs:List GB) (m:Nat) (e:Env) (h':ae):Prop:=
 ∃(j:Nat) (ys rs:List XR) (κ cap:Nat->Nat),m=bs.length-j/\j<=bs.length/\Env.get e 1= .pointer (some ⟨F,0,none⟩)/\Env.get e 2= .pointer (some ⟨R,0,none⟩)/\Env.get e 14=B'.v/\Env.get e 15= .int .i64 bs.length/\Env.get e 16= .int .i64 j/\ab (ax B'.v) h1 h'/\e_ fe h' B' ys/\ys.length=bs.length/\rs.length=j/\cq h' M0 ai κ cap rs/\
  (∀(i:Nat) (y:XR) (b:GB),ys[i]? =some y->bs[i]? =some b->(i<j->rs[i]? =some y/\RD y b)/\(j<=i->Pu h0 y b))
theorem Kt {h0 h1:ae} (jG:bu h0) (g1:ab aG h0 h1) {M0 ai F R s1 s2:Nat} {name:ByteArray} {p r:Int} {B':SV} {ys:List XR} (hB:e_ fe h1 B' ys) (uw:ys.length=bs.length) (hy: ∀(i:Nat) (y:XR) (b:GB),ys[i]? =some y->bs[i]? =some b->Pu h0 y b)
  (tS: ∀b∈bs,InB ai b) (pc:bs.length<1000000) (hM:M0<=h1.next) (hBM: ∀b,ax B'.v b->h0.next<=b/\b<M0/\b≠F/\b≠R) (h0M:h0.next<=M0) (hFM:F<M0) (hRM:R<M0) (hF:h1.tr.get F=some (.aA (au name p r B') false 0 s1)) (hR:h1.tr.get R=some (.aA [.string ⟨⟨[]⟩⟩,.int .i64 0,.int .i64 0,.slice none 0 0] false 0 s2))
  {e:Env} {Q:aP->Env->ae->Prop} (f1:Env.get e 1= .pointer (some ⟨F,0,none⟩)) (f2:Env.get e 2= .pointer (some ⟨R,0,none⟩)) (f14:Env.get e 14=B'.v) (f15:Env.get e 15= .int .i64 bs.length) (f16:Env.get e 16= .int .i64 0)
  (C: ∀e' h' ys' κ cap,Env.get e' 1= .pointer (some ⟨F,0,none⟩)->Env.get e' 2= .pointer (some ⟨R,0,none⟩)->ab (ax B'.v) h1 h'->e_ fe h' B' ys'->ys'.length=bs.length->cq h' M0 ai κ cap ys'->(∀(i:Nat) (y:XR) (b:GB),ys'[i]? =some y->bs[i]? =some b->RD y b)->Q (.exit 0) e' h'):
  aB FF (.loop rG) e h1 Q:=by
 have ew:=hB.len;refine aB.loop (CyI h0 h1 M0 ai F R name p r B' bs) ?_ (n:=bs.length) ⟨0,ys,[],_,_,rfl,by omega,f1,f2,f14,f15,f16,.refl g1.ok,hB,uw,rfl,cq.nil h1 M0 ai,fun i y b h1 h2=>⟨fun h=>by omega,fun _=>hy i y b h1 h2⟩⟩;rintro m e' h' ⟨j,ys,rs,κ,cap,rfl,hj,q1,q2,HA,Az,Gk,g,hB,uw,uJ,W,H⟩;have Hs:=g.ok;have gg:ab aG h0 h':=g1.trans' g (fun _ _ h=>h) (fun x hx e=>by have:=(hBM x e).1;omega);have sD:=g.get g1.ok hF (fun e=>(hBM F e).2.2.1 rfl);have hR':=g.get g1.ok hR (fun e=>(hBM R e).2.2.2 rfl);unfold rG;by_cases aS:j<bs.length
 .have wj:=wrap_i64 ((j:Int)+1) (by omega) (by omega);obtain⟨b,hb⟩: ∃b,bs[j]? =some b:=⟨_,aX aS⟩;obtain⟨y,VD⟩: ∃y,ys[j]? =some y:=⟨_,aX (by omega)⟩;have hT:=(H j y b VD hb).2 (dK _);have I:=tS b (dk hb);obtain⟨bB,cs,oB,sB,ig,FZ,YZ,eH,dy,fH⟩:=hB.el VD;have ew:=hB.len;have r0:=dy 0 6 (by decide);simp[-ag] at r0;simp at HA;rw[ig,ew,uw] at HA;have jl:=SliceR.len hT.P;have tB:=SliceR.len hT.L;have tC:=SliceR.len hT.T;simp[HA,Az,Gk,aS,r0,-ag,av];refine aE.cut (fun h2=>ab aG h' h2/\(∃s,h2.tr.get h'.next=some (.aA [y.P.v,y.L.v,.int .i64 y.kind,.bool y.on.1,.int .i64 y.on.2,y.T.v] false 0 s))) ⟨(ab.refl Hs).var _ _,_,aD _ _ _ _ _ _⟩ ?_;rintro h2 ⟨g2,s3,dS⟩;have iI:=gg.trans g2;have lX:h'.next<h2.next:=iI.ok.wf _ _ dS;obtain⟨qs0,Y8,anX,XZ⟩:=aih hT.P;refine aE.call (V:=tp jR h2 qs0) (by simpa using jQ jR (bytes:=32) na rfl (by decide) iI.ok (anX.bt jG iI) (by have:=I.lp;omega)) ?_;rintro _ h3 ⟨g3,P',rfl,hP3,YR,_⟩;have fK:=g3.get iI.ok dS (fun h=>h);have dh:=iI.trans g3;have UX:=hP3.len;simp at fK;simp[fK,UX,Y8];refine aB.cut (fun h4=>ab (· =h'.next) h3 h4/\(∃s,h4.tr.get h'.next=some (.aA [P'.v,y.L.v,.int .i64 y.kind,.bool y.on.1,.int .i64 y.on.2,y.T.v] false 0 s))) ?_ ?_
  .refine⟨aM dh.ok fK,h3.clock,?_⟩;rw[aD];simp[UX,Y8,aJ]
  rintro h4 ⟨g4,s4,tR⟩;have mK:ab aG h0 h4:=dh.trans' g4 (fun _ _ h=>h) (fun x hx e=>by have:=gg.next;omega);have XK:e_ jR h4 P' qs0:=hP3.grow dh.ok g4 (fun b hb e=>by have:=YR b hb;omega);have lnX4:h'.next<h4.next:=by have:=g3.next;have:=g4.next;omega
  have V4:qu h4 h'.next ai (fun _=>0) (fun _=>0):=⟨fun b hb=>absurd hb (by decide),fun b hb=>absurd rfl hb⟩;have ln4:h'.next<=h4.next:=by have:=g2.next;have:=g3.next;have:=g4.next;omega
  refine QL jG mK (ai:=ai) (M:=h'.next) XK Y8 XZ (fun p hp=>⟨(I.ph p hp).2.1,(I.ph p hp).2.2⟩) I.lp gg.next ln4 (fun b hb=>⟨by have:=YR b hb;omega,rfl,by have:=YR b hb;omega⟩) tR V4 (by simp) (by simp[UX,Y8]) (by simp) (by simp) ?_;intro e5 h5 κ5 abH qs5 K5 g5 rV hP5 anY hq5 V5 hκ5 _;have ok4:=mK.ok;have ln5:h4.next<=h5.next:=g5.next;have u7:ab aG h0 h5:=mK.trans' g5 (fun _ _ h=>h) (fun x hx e=>by have:=YR x e;have:=gg.next;omega);have k1:=K5.at (t:=1) (by simp;exact q1);have k2:=K5.at (t:=2) (by simp;exact q2);have k3:Env.get e5 3= .int .i64 j:=K5.at (t:=3) (by simp);have k4:Env.get e5 4= .pointer (some ⟨h'.next,0,none⟩):=K5.at (t:=4) (by simp);have k14:=K5.at (t:=14) (by simp;exact HA);have k15:=K5.at (t:=15) (by simp;exact Az);have k16:=K5.at (t:=16) (by simp;exact Gk);have VS: ∀x,ax P'.v x->x<h4.next:=fun x hx=>XK.bA ok4 hx;simp at rV;simp[k4,rV];obtain⟨xs0,Zh,aol,Le⟩:=ahX hT.L;refine aE.call (V:=tp mJ h5 xs0) (by simpa using jQ mJ (bytes:=80) mZ rfl (by decide) u7.ok (aol.bt jG u7) (by have:=I.ll;omega)) ?_;rintro _ h6 ⟨g6,L',rfl,UU,Tf,_⟩;have yp:=g6.get u7.ok rV (fun h=>h);have UK:=u7.trans g6;have ab9:=UU.len;have V6:=V5.grow u7.ok g6 (fun _ h=>h.elim);simp[k4,yp,ab9,Zh];refine aB.cut (fun h7=>ab (· =h'.next) h6 h7/\(∃s,h7.tr.get h'.next=some (.aA [P'.v,L'.v,.int .i64 y.kind,.bool y.on.1,.int .i64 y.on.2,y.T.v] false 0 s))) ?_ ?_
  .refine⟨aM UK.ok yp,h6.clock,?_⟩;rw[aD];simp[ab9,Zh,aJ]
  rintro h7 ⟨g7,s7,Tg⟩;have UL:ab aG h0 h7:=UK.trans' g7 (fun _ _ h=>h) (fun x hx e=>by have:=gg.next;omega);have hL7:e_ mJ h7 L' xs0:=UU.grow UK.ok g7 (fun b hb e=>by have:=Tf b hb;have:=g5.next;omega);have nX5:κ5 h'.next=0:=hκ5 _ (by have:=g3.next;have:=g4.next;omega);have V7:qu h7 h'.next ai κ5 abH:=V6.grow UK.ok g7 (fun b e=>by rw[e];exact nX5);have ln7:h5.next<=h7.next:=by have:=g6.next;have:=g7.next;omega
  refine QK jG UL (ai:=ai) (M:=h'.next) (kind:=y.kind) (on:=y.on) (P:=P') (T:=y.T) hL7 Zh Le (fun p hp=>⟨(I.li p hp).2.2.2.1,(I.li p hp).2.2.2.2⟩) I.ll gg.next (by omega) (fun b hb=>⟨by have:=Tf b hb;omega,?_,by have:=Tf b hb;omega⟩) Tg V7 (by simp[k4]) (by simp[ab9,Zh]) (by simp) (by simp) ?_
  .rcases tP (κ5 b) with h|h
   .exact h
   .have:=Tf b hb;have:=(V5.new b (by omega)).2.2;omega
  intro e8 h8 κ8 cap8 xs8 K8 g8 hX8 hL8 aon hx8 V8 hκ8 hc8;have ok7:=UL.ok;have gg8:ab aG h0 h8:=UL.trans' g8 (fun _ _ h=>h) (fun x hx e=>by have:=Tf x e;have:=u7.next;omega);have m1:=K8.at (t:=1) (by simp;exact k1);have m2:=K8.at (t:=2) (by simp;exact k2);have m3:Env.get e8 3= .int .i64 j:=K8.at (t:=3) (by simp;exact k3);have m4:Env.get e8 4= .pointer (some ⟨h'.next,0,none⟩):=K8.at (t:=4) (by simp;exact k4);have m14:=K8.at (t:=14) (by simp;exact k14);have m15:=K8.at (t:=15) (by simp;exact k15);have m16:=K8.at (t:=16) (by simp;exact k16);simp at hX8;simp[m4,hX8];refine aE.call (V:=tp bp h8 b.to) (by simpa using jQ bp (bytes:=8) mf rfl (by decide) gg8.ok ((aa6 hT.T).bt jG gg8) (by have:=I.lt;omega)) ?_;rintro _ h9 ⟨g9,T',rfl,hT9,hTn,_⟩;have hX9:=g9.get gg8.ok hX8 (fun h=>h);have gg9:=gg8.trans g9;have ln8:h7.next<=h8.next:=g8.next
  
  have gB:ab (ax B'.v) h' h9:=by have a1:ab aG h' h4:=(g2.trans g3).trans' g4 (fun _ _ h=>h) (fun x hx e=>by omega);have a2:ab aG h' h5:=a1.trans' g5 (fun _ _ h=>h) (fun x hx e=>by have:=YR x e;omega);have a3:ab aG h' h7:=(a2.trans g6).trans' g7 (fun _ _ h=>h) (fun x hx e=>by omega);have a4:ab aG h' h8:=a3.trans' g8 (fun _ _ h=>h) (fun x hx e=>by have:=Tf x e;have:=a2.next;omega);exact(a4.trans g9).bt
  have gN:ab aG h' h9:=by have a1:ab aG h' h4:=(g2.trans g3).trans' g4 (fun _ _ h=>h) (fun x hx e=>by omega);have a2:ab aG h' h5:=a1.trans' g5 (fun _ _ h=>h) (fun x hx e=>by have:=YR x e;omega);have a3:ab aG h' h7:=(a2.trans g6).trans' g7 (fun _ _ h=>h) (fun x hx e=>by omega);have a4:ab aG h' h8:=a3.trans' g8 (fun _ _ h=>h) (fun x hx e=>by have:=Tf x e;have:=a2.next;omega);exact a4.trans g9
  have hF9:=gN.get Hs sD (fun h=>h);have hR9:=gN.get Hs hR' (fun h=>h);have agb:=gN.get Hs FZ (fun h=>h);simp[au] at hF9;rw[ig,ew,uw] at hF9;have lB:=(Hs.bA FZ).lt;have lF:=(Hs.bA sD).lt;have nFX: ¬F=h'.next:=by omega
  have nBX: ¬bB=h'.next:=by omega
  have hf6:=eH 0 6 (by decide);simp at hf6;simp[m1,m3,m4,m16,hX9,hF9,nFX,nBX,aS,agb,hf6,wj];have V9:=V8.grow gg8.ok g9 (fun _ h=>h.elim);have hP7:e_ jR h7 P' qs5:=(hP5.bt u7.ok g6).grow UK.ok g7 (fun b hb e=>by have:=YR b hb;omega);have hP9:e_ jR h9 P' qs5:=(hP7.grow UL.ok g8 (fun b hb e=>by have:=Tf b e;have:=VS b hb;omega)).bt gg8.ok g9;have hL9:=hL8.bt gg8.ok g9;have lL7: ∀x,ax L'.v x->x<h7.next:=fun x hx=>hL7.bA UL.ok hx;obtain⟨κn,R9,Vn9,adr,aoX⟩:=aoE V9 gg9.ok (kind:=y.kind) (on:=y.on) hP9 hL9 hT9
   (fun b hb=>⟨by have:=YR b hb;omega,by rw[hκ8 b (by have:=VS b hb;omega),hκ5 b (VS b hb)],fun h=>by have:=Tf b h;have:=VS b hb;omega,fun h=>by have:=hTn b h;have:=VS b hb;omega⟩)
   (fun b hb=>⟨by have:=Tf b hb;omega,by
    rw[hκ8 b (lL7 b hb)];rcases tP (κ5 b) with h|h
    .exact h
    .have:=Tf b hb;have:=(V5.new b (by omega)).2.2;omega,fun h=>by have:=hTn b h;have:=lL7 b hb;omega⟩)
   (fun b hb=>⟨by have:=hTn b hb;omega,by
    rcases tP (κ8 b) with h|h
    .exact h
    .have:=hTn b hb;have:=(V8.new b (by omega)).2.2;omega⟩)
   (fun q hq=>by obtain⟨i,hi⟩:=rT hq;have ff:=(bY.mp hi).1;have XY:b.eS[i]? =some (b.eS[i]'(by omega)):=aX (by omega);have JR:=dk XY;obtain⟨a1,a2,_⟩:=hq5 i q _ hi XY;have:=(I.ph _ JR).1;refine⟨by rw[a1];exact this,a2.congr (fun b' iy=> ?_)⟩;obtain⟨c1,c2⟩:=hc8 b' (by omega);exact⟨by omega,c2⟩)
   (fun x hx=>by obtain⟨i,hi⟩:=rT hx;have ff:=(bY.mp hi).1;have XY:b.list[i]? =some (b.list[i]'(by omega)):=aX (by omega);have JR:=dk XY;obtain⟨⟨_,a1,a2,a3,_⟩,a4,_⟩:=hx8 i x _ hi XY;obtain⟨c1,c2,c3,_⟩:=I.li _ JR;exact⟨by rw[a1];exact c1,by rw[a2];exact c2,by rw[a3];exact c3,a4⟩)
   (by rw[hT.on];exact I.on)
  have hκX:κ8 h'.next=0:=by rw[hκ8 _ (by omega)];exact nX5
  obtain⟨Tc,e10⟩: ∃Tc,Tc=put h9 h'.next 5 [.slice P'.a P'.l P'.c,.slice L'.a L'.l L'.c,.int .i64 y.kind,.bool y.on.1,.int .i64 y.on.2,.slice y.T.a y.T.l y.T.c] [.slice T'.a T'.l T'.c] 0:=⟨_,rfl⟩;rw[<-e10];have g10:ab (· =h'.next) h9 Tc:=by rw[e10];exact aM gg9.ok hX9
  have aga:=g10.get gg9.ok agb nBX;have g11:ab (· =bB) Tc (put Tc bB (j*6) cs [.slice P'.a P'.l P'.c,.slice L'.a L'.l L'.c,.int .i64 y.kind,.bool y.on.1,.int .i64 y.on.2,.slice T'.a T'.l T'.c] oB):=aM g10.ok aga;have gS:ab (fun x=>x=h'.next\/x=bB) h9 (put Tc bB (j*6) cs [.slice P'.a P'.l P'.c,.slice L'.a L'.l L'.c,.int .i64 y.kind,.bool y.on.1,.int .i64 y.on.2,.slice T'.a T'.l T'.c] oB):=g10.trans' g11 (fun _ _ h=> .inl h) (fun _ _ h=> .inr h);have n1: ∀x,(x=h'.next\/x=bB)-> ¬ax P'.v x/\ ¬ax L'.v x/\ ¬ax T'.v x:=by
   intro x hx;refine⟨fun h=> ?_,fun h=> ?_,fun h=> ?_⟩
   .have:=YR x h;omega
   .have:=Tf x h;omega
   .have:=hTn x h;omega
  have Rf:=R9.grow gg9.ok gS n1;have Vf:=Vn9.grow gg9.ok gS (fun x hx h1=>by
   have h2:=aoX x h1;have h3:=adr x (by omega);rcases hx with rfl|rfl
   .omega
   .omega)
  have gF:ab (ax B'.v) h' (put Tc bB (j*6) cs [.slice P'.a P'.l P'.c,.slice L'.a L'.l L'.c,.int .i64 y.kind,.bool y.on.1,.int .i64 y.on.2,.slice T'.a T'.l T'.c] oB):=
   gN.trans' gS (fun _ _ h=>h.elim) (fun x hx h=>by
    rcases h with rfl|rfl
    .omega
    .exact bU ig)
  have hκB: ∀x,ax B'.v x->κ x=0\/κ x=2:=by
   intro x hx;rcases tP (κ x) with h|h
   .exact .inl h
   .have:=(W.new x (by omega)).1;have:=(hBM x hx).2.1;omega
  have Wf:=W.push Hs gF hκB (by have:=g.next;omega) Rf Vf (fun x hx=>⟨(adr x hx).1,by have:=(adr x hx).2;have:=gS.next;omega⟩);have Eh:=fH ⟨P',L',T',y.kind,y.on,qs5,xs8,b.to⟩ 0 [.slice P'.a P'.l P'.c,.slice L'.a L'.l L'.c,.int .i64 y.kind,.bool y.on.1,.int .i64 y.on.2,.slice T'.a T'.l T'.c] (by simp) rfl (put Tc bB (j*6) cs [.slice P'.a P'.l P'.c,.slice L'.a L'.l L'.c,.int .i64 y.kind,.bool y.on.1,.int .i64 y.on.2,.slice T'.a T'.l T'.c] oB) ⟨_,aD _ _ _ _ _ _⟩;refine⟨bs.length-(j+1),by omega,j+1,ys.set j ⟨P',L',T',y.kind,y.on,qs5,xs8,b.to⟩,rs++[⟨P',L',T',y.kind,y.on,qs5,xs8,b.to⟩],_,_,rfl,aS,by simp[m1],by simp[m2],by simp[m14,ig,ew,uw],by simp[m15],by simp,g.trans gF,Eh,by simp[uw],by simp[uJ],Wf,fun i y' b' h1 h2=> ?_⟩;rw[eR] at h1;by_cases e:j=i
  .subst e;rw[aU rfl,aU (by omega)] at h1;cases h1;rw[hb] at h2;cases h2;refine⟨fun _=>⟨by rw[Mv (by omega),uJ];simp,⟨hT.kind,hT.on,rfl,anY,fun i q p a1 a2=> ?_,aon,fun i q p a1 a2=>⟨(hx8 i q p a1 a2).1,(hx8 i q p a1 a2).2.2⟩⟩⟩,fun h=>by omega⟩;obtain⟨c1,_,c3⟩:=hq5 i q p a1 a2;exact⟨c1,c3⟩
  .rw[aT e] at h1;obtain⟨a1,a2⟩:=H i y' b' h1 h2;refine⟨fun h=> ?_,fun h=>a2 (by omega)⟩;obtain⟨c1,c2⟩:=a1 (by omega);exact⟨by rw[KH (by omega)];exact c1,c2⟩
 .have:j=bs.length:=by omega
  subst this;have e:ys=rs:=zV fun i=>by
   rcases AV i bs.length with hi|hi
   .have h1:ys[i]? =some (ys[i]'(by omega)):=aX (by omega);have h2:bs[i]? =some bs[i]:=aX hi;rw[h1,((H i _ _ h1 h2).1 hi).1]
   .rw[uI (by omega),uI (by omega)]
  subst e;simp[Az,Gk];exact C _ _ ys κ cap (by simp[q1]) (by simp[q2]) g hB uw W (fun i y b h1 h2=>((H i y b h1 h2).1 (bY.mp h2).1).2)
structure mF (h:ae) (n0 ai:Nat) (κ cap:Nat->Nat) (B:SV) (rs:List XR):Prop where
 os:cq h n0 ai κ cap rs
 A:e_ fe h B rs
 kB: ∀b,ax B.v b->κ b=2
theorem mF.bt {h h':ae} {n0 ai:Nat} {κ cap:Nat->Nat} {B:SV} {rs:List XR} (w:mF h n0 ai κ cap B rs) (ok:bu h) (g:ab aG h h'):mF h' n0 ai κ cap B rs:=⟨w.os.bt ok g,w.A.bt ok g,w.kB⟩
theorem mF.grow {S:Nat->Prop} {h h':ae} {n0 ai:Nat} {κ cap:Nat->Nat} {B:SV} {rs:List XR} (w:mF h n0 ai κ cap B rs) (ok:bu h) (g:ab S h h') (hS: ∀b,S b->κ b=0):mF h' n0 ai κ cap B rs:=
 ⟨w.os.grow ok g (fun b hb=> .inl (hS b hb)),w.A.grow ok g (fun b hb hs=>by have:=hS b hs;have:=w.kB b hb;omega),w.kB⟩
theorem cq.own {n0 n1 ai:Nat} (w:cq h n1 ai κ cap rs) (ok:bu h) (hB:e_ fe h B rs) (hn:n0<=n1) (Te: ∀b,ax B.v b->n0<=b/\κ b=0): ∃κ':Nat->Nat,mF h n0 ai κ' cap B rs/\ ∀b,¬ax B.v b->κ' b=κ b:=by
 obtain⟨κ',p1,q1⟩: ∃κ':Nat->Nat,(∀b,ax B.v b->κ' b=2)/\(∀b,¬ax B.v b->κ' b=κ b):=by
  rcases hB.2 with⟨ha,_⟩|⟨b,_,_,_,ha,_⟩
  .exact⟨κ,fun b hb=>(fW ha hb).elim,fun b _=>rfl⟩
  .exact⟨CB κ B 2,fun b' hb=>by rw[pa ha hb];exact pZ ha,fun b' hb=>kJ ha (fun e=>hb (e▸bU ha))⟩
 have e1: ∀b,κ b≠0->κ' b=κ b/\cap b=cap b:=fun b hb=>⟨q1 b (fun h=>hb (Te b h).2),rfl⟩;refine⟨κ',⟨⟨fun i r hr=>(w.r i r hr).congr e1,w.dP,w.dL,w.dT,fun b hb=> ?_,fun b hb=> ?_⟩,hB,p1⟩,q1⟩
 .by_cases h1:ax B.v b
  .rw[p1 b h1] at hb;omega
  .rw[q1 b h1] at hb;exact w.V b hb
 .by_cases h1:ax B.v b
  .exact⟨(Te b h1).1,hB.bA ok h1⟩
  .rw[q1 b h1] at hb;have:=w.new b hb;omega
def Pp (rs:List XR) (bs:List GB):Prop:=rs.length=bs.length/\ ∀(i:Nat) (y:XR) (b:GB),rs[i]? =some y->bs[i]? =some b->RD y b
def aaf (name:ByteArray) (p r:Int) (ai:Nat) (bs:List GB) (h:ae) (v:Value) (h':ae):Prop:=
 ab aG h h'/\ ∃(B':SV) (rs:List XR) (κ cap:Nat->Nat),v= .agg ⟨au name p r B'⟩/\mF h' h.next ai κ cap B' rs/\Pp rs bs
theorem QJ (ok:bu h) {name:ByteArray} {p r:Int} (hB:AU h B bs) (tS: ∀b∈bs,InB ai b) (pc:bs.length<1000000):
  aF FF Ak [.agg ⟨au name p r B⟩] h (aaf name p r ai bs h):=by
 refine aF.of HZ ?_;unfold zE;simp[au];refine aE.cut (fun h1=>ab aG h h1/\h1.tr.get h.next=some (.aA (au name p r B) false 0 0)/\h1.tr.get (h.next+1)=some (.aA [.string ⟨⟨[]⟩⟩,.int .i64 0,.int .i64 0,.slice none 0 0] false 0 0)) ?_ ?_
 .exact⟨((ab.refl ok).new _ _).new _ _,by simp[au],by simp⟩
 rintro h1 ⟨g1,wK,sG⟩;obtain⟨ys0,uw,PT,hy⟩:=afJ hB;refine aE.call (V:=tp fe h1 ys0) (by simpa using jQ fe (bytes:=96) kS rfl (by decide) g1.ok (PT.bt ok g1) (by omega)) ?_;rintro _ h2 ⟨g2,B',rfl,ND,Te,_⟩;have iI:=g1.trans g2;have kx:=g2.get g1.ok wK (fun h=>h);have xW:=g2.get g1.ok sG (fun h=>h);have lR:=g1.ok.wf _ _ sG;have lR2:=iI.ok.wf _ _ xW;have al4:=ND.len;simp[au] at kx;simp[kx];refine aB.cut (fun h3=>ab (· =h.next) h2 h3/\(∃s,h3.tr.get h.next=some (.aA (au name p r B') false 0 s))) ?_ ?_
 .refine⟨aM iI.ok kx,h2.clock,?_⟩;rw[aD];simp[au,aJ]
 rintro h3 ⟨g3,s3,vH⟩;have dh:ab aG h h3:=iI.trans' g3 (fun _ _ h=>h) (fun x hx e=>by omega);have hB3:=ND.grow iI.ok g3 (fun b hb e=>by have:=Te b hb;omega);have Ga:=g3.get iI.ok xW (by omega);have hBo: ∀b,ax B'.v b->b<h2.next:=fun b hb=>ND.bA iI.ok hb;have ln3:=g3.next;refine Kt ok dh (M0:=h2.next) (ai:=ai) hB3 uw hy tS pc ln3 (fun b hb=>⟨by have:=Te b hb;omega,hBo b hb,by have:=Te b hb;omega,by have:=Te b hb;omega⟩) (by omega) (by omega) (by omega) vH Ga (by simp) (by simp) (by simp) (by simp[al4,uw]) (by simp) ?_;intro e4 h4 ys κ cap q1 q2 g4 YL adl W4 H4;have mK:ab aG h h4:=dh.trans' g4 (fun _ _ h=>h) (fun x hx e=>by have:=Te x e;omega);have F9:=g4.get dh.ok vH (fun e=>by have:=Te _ e;omega);have NJ:=g4.get dh.ok Ga (fun e=>by have:=Te _ e;omega);simp[au] at F9;simp[q1,q2,F9,NJ];have κ0: ∀b,b<h2.next->κ b=0:=by
  intro b hb;rcases tP (κ b) with h|h
  .exact h
  .have:=(W4.new b (by omega)).1;omega
 have gR:ab (· =h.next+1) h4 (put h4 (h.next+1) 0 [.string ⟨⟨[]⟩⟩,.int .i64 0,.int .i64 0,.slice none 0 0] [.string name,.int .i64 p,.int .i64 r,.slice B'.a B'.l B'.c] 0):=aM mK.ok NJ;have W5:=W4.grow mK.ok gR (fun b e=> .inl (κ0 b (by omega)));have XH:=YL.grow mK.ok gR (fun b hb e=>by have:=Te b hb;omega);obtain⟨κ',W6,_⟩:=W5.own (n0:=h.next) gR.ok XH (by omega) (fun b hb=>⟨by have:=Te b hb;omega,κ0 b (hBo b hb)⟩);exact⟨mK.trans' gR (fun _ _ h=>h) (fun x hx e=>by omega),B',ys,κ',cap,rfl,W6,adl,H4⟩
theorem qN {α β:Type} {Q:α->β->Prop} : ∀(xs:List α),(∀x∈xs,∃y,Q x y)-> ∃ys:List β,ys.length=xs.length/\ ∀(i:Nat) (x:α) (y:β),xs[i]? =some x->ys[i]? =some y->Q x y
 |[],_=>⟨[],rfl,fun i x y h=>by simp at h⟩
 |x::xs,H=>by
  obtain⟨y,h1⟩:=H x (D2 ..);obtain⟨ys,hl,h2⟩:=qN xs (fun x hx=>H x (CZ _ hx));refine⟨y::ys,by simp[hl],fun i x' y' hx hy=> ?_⟩;cases i with
  |zero=>simp at hx hy;subst hx;subst hy;exact h1
  |succ i=>exact h2 i x' y' hx hy
theorem e_.view {α β:Type} {E:Enc α} {R:List Value->β->Prop} {xs:List α} {ys:List β} (w:e_ E h A xs) (hl:ys.length=xs.length) (H: ∀(i:Nat) (x:α) (y:β),xs[i]? =some x->ys[i]? =some y->R (E.enc x) y):SliceR R E.sz h A.v ys:=by
 obtain⟨hA,w⟩:=w;refine⟨A.a,A.c,by simp[hA,hl],?_⟩;rcases w with⟨ha,_,rfl⟩|⟨b,o,s,bh,ha,hc,hb,_⟩
 .exact .inl ⟨KF hl,.inl ha⟩
 .refine .inr ⟨b,0,_,_,_,_,ha,hb,fun i y hy=> ?_⟩;have hi:=(bY.mp hy).1;have hx:xs[i]? =some (xs[i]'(by omega)):=aX (by omega);have pL:(xs++bh)[i]? =some (xs[i]'(by omega)):=by rw[KH (by omega)];exact hx
  rw[Bg,E.lZ _ _ _ pL];exact⟨E.len _,H i _ y hx hy⟩
theorem VA.row {h:ae} {κ cap:Nat->Nat} {ai:Nat} {F:SV} (w:VA κ cap F) (V:Cz h κ cap ai): ∃row,SliceR vR 2 h F.v row/\row.length=F.l/\ ∀v∈row,gK ai v:=by
 obtain⟨hl,h|⟨b,ha,hk,hc⟩⟩:=w
 .refine⟨[],⟨F.a,F.c,by simp;omega,.inl ⟨rfl,.inl h.1⟩⟩,by simp;omega,fun v hv=>by simp at hv⟩
 .obtain⟨vs,o,s,hb,_,Hc,hv⟩:=V b hk;refine⟨vs.take F.l,⟨F.a,F.c,by simp;omega,.inr ⟨b,0,_,_,_,_,ha,hb,fun i y hy=> ?_⟩⟩,by simp;omega,fun v hm=>hv v (YI hm)⟩;have C7:vs[i]? =some y:=by
   rw[DZ] at hy;split at hy
   .exact hy
   .cases hy
  have:=cr.lZ vs i y C7;rw[Bg];simp only[eu] at this;rw[this];exact⟨rfl,rfl⟩
structure BV (ai:Nat) (r:XR) (b:GB):Prop where
 kind:b.kind=r.kind
 on:b.on=r.on
 to:b.to=r.ts
 pl:b.eS.length=r.ps.length
 ps: ∀(i:Nat) (q:Int×SV) (p:GP),r.ps[i]? =some q->b.eS[i]? =some p->p.dst=q.1/\p.row.length=q.2.l/\ ∀v∈p.row,gK ai v
 ll:b.list.length=r.ls.length
 ls: ∀(i:Nat) (q:XI) (p:GI),r.ls[i]? =some q->b.list[i]? =some p->Gu q p/\p.args.length=q.args.l/\ ∀v∈p.args,gK ai v
def BVs (ai:Nat) (rs:List XR) (bs:List GB):Prop:=bs.length=rs.length/\ ∀(i:Nat) (r:XR) (b:GB),rs[i]? =some r->bs[i]? =some b->BV ai r b
theorem Pq.view {h:ae} {κ cap:Nat->Nat} {ai:Nat} {r:XR} (w:Pq h κ cap ai r) (V:Cz h κ cap ai): ∃b,bR h (fe.enc r) b/\BV ai r b:=by
 obtain⟨te,va,gM⟩:=qN (Q:=fun(q:Int×SV) (p:GP)=>pR h (jR.enc q) p/\p.dst=q.1/\p.row.length=q.2.l/\ ∀v∈p.row,gK ai v) r.ps (fun q hq=>by obtain⟨row,a1,a2,a3⟩:=VA.row (w.ps q hq).2 V;exact⟨⟨q.1,row⟩,⟨q.2,rfl,a1⟩,rfl,a2,a3⟩)
 obtain⟨xs,uv,CQ⟩:=qN (Q:=fun(q:XI) (p:GI)=>iR h (mJ.enc q) p/\Gu q p/\p.args.length=q.args.l/\ ∀v∈p.args,gK ai v) r.ls (fun q hq=>by obtain⟨row,a1,a2,a3⟩:=VA.row (w.ls q hq).2.2.2 V;exact⟨⟨q.op,q.dst,q.a,q.b,q.fn,row⟩,⟨q.args,rfl,a1⟩,⟨rfl,rfl,rfl,rfl,rfl⟩,a2,a3⟩)
 refine⟨⟨te,xs,r.kind,r.on,r.ts⟩,⟨r.P,r.L,r.T,rfl,?_,?_,?_⟩,rfl,rfl,rfl,va,fun i q p a b=>(gM i q p a b).2,uv,fun i q p a b=>(CQ i q p a b).2⟩
 .exact w.P.view va (fun i q p a b=>(gM i q p a b).1)
 .exact w.L.view uv (fun i q p a b=>(CQ i q p a b).1)
 .exact w.T.view rfl (fun i x y a b=>by rw[a] at b;cases b;rfl)
theorem mF.view {h:ae} {n0 ai:Nat} {κ cap:Nat->Nat} {B:SV} {rs:List XR} (w:mF h n0 ai κ cap B rs): ∃bs,AU h B bs/\BVs ai rs bs:=by
 obtain⟨bs,hl,H⟩:=qN (Q:=fun(r:XR) (b:GB)=>bR h (fe.enc r) b/\BV ai r b) rs (fun r hr=>by obtain⟨i,hi⟩:=rT hr;exact(w.os.r i r hi).view w.os.V)
 exact⟨bs,w.A.view hl (fun i r b a c=>(H i r b a c).1),hl,fun i r b a c=>(H i r b a c).2⟩
def bz (rs:List XR):List (List Int):=rs.map (·.ts)
theorem BVs.dw (w:BVs ai rs bs):bj bs=bz rs:=by
 refine zV fun i=> ?_;unfold bj bz;rw[tQ,tQ];rcases AV i rs.length with hi|hi
 .have h1:rs[i]? =some rs[i]:=aX hi;have h2:bs[i]? =some (bs[i]'(by rw[w.1];exact hi)):=aX (by rw[w.1];exact hi);rw[h1,h2];simp only[CJ];rw[(w.2 i _ _ h1 h2).to]
 .rw[uI (by rw[w.1];exact hi),uI hi];rfl
structure TOk (cT:List (List Int)):Prop where
 len:cT.length<=1000
 two: ∀ts∈cT,ts.length<=2
 to: ∀ts∈cT,∀t∈ts,0<=t/\t<cT.length
theorem BVs.ends (w:BVs ai rs bs) (T:TOk (bz rs)):jo bs:=by
 have e:=w.dw;have hl:(bz rs).length=bs.length:=by rw[<-e];simp[bj]
 refine⟨by have:=T.len;omega,fun b hb=>T.two _ ?_,fun b hb t ht=> ?_⟩
 .rw[<-e];exact j9.2 ⟨b,hb,rfl⟩
 .rw[<-hl];exact T.to b.to (by rw[<-e];exact j9.2 ⟨b,hb,rfl⟩) t ht
def aam (ai:Nat) (h:ae) (d lo hi:Nat) (w:SV):Prop:= ∃row,bk cr h w.v row/\row.length<2000000/\(∀v∈row,gK ai v)/\(row≠[]-> ∀b,ax w.v b->b≠d/\(b<lo\/hi<=b))
structure TkS (h0 h:ae) (ai d lo:Nat) (ws:List SV):Prop where
 g:ab aG h0 h
 n0:h0.next<=d
 hd: ∃s,h.tr.get d=some (.aA (rS.flat ws) false 0 s)
 len:ws.length=ai
 wH: ∀w∈ws,aam ai h d lo h0.next w
section
variable {hf h0:ae} {ai d:Nat}
end
theorem Di {α:Type} {E:Enc α} {S:Nat->Prop} {row:List α} (s:bk E h v row) (ok:bu h) (g:ab S h h') (hS:row≠[]-> ∀b,ax v b-> ¬S b):bk E h' v row:=by
 by_cases e:row=[]
 .subst e;obtain⟨a,cap,e2,s⟩:=s;refine⟨a,cap,e2,?_⟩;rcases s with s|⟨b,off,_,_,_,_,e3,_⟩
  .exact .inl s
  .exact .inl ⟨rfl,.inr ⟨b,off,e3⟩⟩
 .exact s.grow ok g (hS e)
structure MS (h0 h:ae) (ai N F M nb d:Nat) (Lx:List Bool) (ws:List SV):Prop where
 g:ab aG h0 h
 nn:h0.next<=nb
 hN: ∃s,h.tr.get N=some (.aA [.slice (some ⟨nb,0,none⟩) ai ai] false 0 s)
 hb: ∃s,h.tr.get nb=some (.aA (wB.flat Lx) false 0 s)
 nl:Lx.length=ai
 hF: ∃s,h.tr.get F=some (.aA [.slice (some ⟨d,0,none⟩) ai ai] false 0 s)
 hM: ∃s,h.tr.get M=some (.aA [.func (.func CT) #[] #[.pointer (some ⟨N,0,none⟩),.pointer (some ⟨F,0,none⟩),.pointer (some ⟨M,0,none⟩)]] false 0 s)
 hd: ∃s,h.tr.get d=some (.aA (rS.flat ws) false 0 s)
 wl:ws.length=ai
 wH: ∀w∈ws,aam ai h nb nb (nb+1) w
 ne:N≠nb/\F≠nb/\M≠nb/\d≠nb
section
variable {h0:ae} {ai N F M nb d:Nat} {ws:List SV}
end
section
variable {h0:ae} {ai N F M nb d:Nat} {ws:List SV}
def Nd (ai nb:Nat) (h:ae):Prop:= ∃Lx:List Bool,(∃s,h.tr.get nb=some (.aA (wB.flat Lx) false 0 s))/\Lx.length=ai
end
section
variable {h0:ae} {ai N F M nb d:Nat} {ws:List SV}
end
def Lh (sz:Nat):ak:=(G_ [B_ 9 .lss 8 7] (J_ (H_ 9 0) (J_ (P_ 1 (G_ [m_ 10 8,m_ 5 10] (G_ [m_ 11 1,m_ 12 0,m_ 13 5,o_ 14 (.cR none sz (t_ 12) (t_ 13)),o_ 15 (.load (some sz) (t_ 14)),o_ 16 (.call (t_ 11) [t_ 15])] (I_ 16 (G_ [m_ 17 5,m_ 4 17] .ret) .skip)))) (O_ [C_ 18 .add 8 1,m_ 8 18]))))
def C8 (sz:Nat):ak:=(.seq (.ops [⟨(some 4),none,(.mv (.const (.int .i64 0)))⟩]) (.seq (.seq (.ops [⟨(some 6),none,(.mv (.tmp 0))⟩,⟨(some 7),none,(.uU (.tmp 6))⟩,⟨(some 8),none,(.mv (.const (.int .i64 0)))⟩]) (.block 0 (.loop (Lh sz)))) (.seq (.ops [⟨(some 4),none,(.mv (.const (.int .i64 (Int.negSucc 0))))⟩]) .ret)))
def Kv (z:List Value) (sz:Nat):ak:=(J_ (G_ [m_ 16 6,m_ 17 0,z_ 18 17,B_ 19 .lss 16 18] (H_ 19 0)) (J_ (P_ 1 (G_ [m_ 22 0,m_ 23 6,o_ 24 (.cR none sz (t_ 22) (t_ 23)),o_ 25 (.load (some sz) (t_ 24)),o_ 7 (.alloc z),u_ (.store sz (t_ 7) (t_ 25))] (G_ [m_ 26 1,o_ 27 (.load (some sz) (t_ 7)),o_ 28 (.call (t_ 26) [t_ 27]),o_ 29 (.un .not (t_ 28))] (I_ 29 (G_ [m_ 30 0,m_ 31 5,o_ 32 (.load (some sz) (t_ 7)),o_ 33 (.cR none sz (t_ 30) (t_ 31)),u_ (.store sz (t_ 33) (t_ 32))] (O_ [m_ 34 5,C_ 35 .add 34 1,m_ 5 35])) .skip)))) (O_ [m_ 20 6,C_ 21 .add 20 1,m_ 6 21])))
def Io (z:List Value) (sz f:Nat):ak:=(G_ [o_ 4 (.mv (.const (.slice none 0 0)))] (G_ [m_ 8 0,m_ 9 1,o_ 10 (.call (.func f) [t_ 8,t_ 9]),m_ 5 10] (J_ (G_ [m_ 11 5,o_ 12 (.bin .eql [1] (t_ 11) (.const (.int .i64 (Int.negSucc 0))))] (I_ 12 (G_ [m_ 13 0,m_ 4 13] .ret) .skip)) (J_ (G_ [m_ 14 5,C_ 15 .add 14 1,m_ 6 15] (P_ 0 (.loop (Kv z sz)))) (G_ [m_ 36 0,m_ 37 5,o_ 38 (.slice sz (t_ 36) (some (t_ 37)) none none),u_ (.clear z (t_ 38))] (G_ [m_ 39 0,m_ 40 5,o_ 41 (.slice sz (t_ 39) none (some (t_ 40)) none),m_ 4 41] .ret))))))
theorem abJ:FF dE=some ⟨[.tmp 4],C8 2,.no⟩:=kU
theorem abI:FF fq=some ⟨[.tmp 4],Io [.int .i64 0,.slice none 0 0] 2 dE,.no⟩:=ku
section
variable {α:Type} {E:Enc α} {p:α->Bool} {y:Value}
def T7 (E:Enc α) (p:α->Bool) (y:Value) (A:SV) (xs:List α) (h:ae):Prop:= ∀x∈xs,∀h1,ab (ax A.v) h h1->cP FF y [.agg ⟨E.enc x⟩] h1 (fun v h'=>v= .bool (p x)/\ab aG h1 h')
def aks (h:ae) (p:α->Bool) (y:Value) (A:SV) (xs:List α) (m:Nat) (e:Env) (h2:ae):Prop:=
 ∃j:Nat,m=xs.length-j/\j<=xs.length/\Env.get e 0=A.v/\Env.get e 1=y/\Env.get e 7= .int .i64 xs.length/\Env.get e 8= .int .i64 j/\ab aG h h2/\ ∀x∈xs.take j,p x=false
def afc (p:α->Bool) (xs:List α) (h:ae) (v:Value) (h':ae):Prop:=ab aG h h'/\((v= .int .i64 (-1)/\ ∀x∈xs,p x=false)\/ ∃(j:Nat) (x:α),v= .int .i64 j/\xs[j]? =some x/\p x=true/\ ∀x∈xs.take j,p x=false)
theorem Rk {f:Nat} (hf:FF f=some ⟨[.tmp 4],C8 E.sz,.no⟩) (ok:bu h) {xs:List α} (w:e_ E h A xs) (hl:xs.length<2000000) (H:T7 E p y A xs h):
  aF FF f [A.v,y] h (afc p xs h):=by
 have vE:=w.len;refine aF.of hf ?_;unfold C8;simp[vE];refine aB.loop (aks h p y A xs) ?_ (n:=xs.length) ⟨0,rfl,by omega,by simp[vE],by simp,by simp,by simp,.refl ok,fun x hx=>by simp at hx⟩;rintro m e h2 ⟨j,rfl,hj,f0,f1,f7,f8,g2,hn⟩;unfold Lh;by_cases aS:j<xs.length
 .have wj:=wrap_i64 ((j:Int)+1) (by omega) (by omega);obtain⟨x,hx⟩: ∃x,xs[j]? =some x:=⟨_,aX aS⟩;obtain⟨b,cs,o,s,CK,hb,_,_,dy,_⟩:=(w.bt ok g2).el hx;have r0:=dy 0 E.sz (by omega);simp[-ag,E.len] at r0;rw[XD (by rw[E.len];exact dK _)] at r0;simp at f0;rw[CK,vE] at f0;simp[f0,f1,f7,f8,aS,r0,E.len,-ag];refine aE.cD (V:=fun v h'=>v= .bool (p x)/\ab aG h2 h') (by simpa [f1] using H x (dk hx) h2 g2.bt) ?_;rintro _ h3 ⟨rfl,g3⟩;cases hp:p x with
  |true=>
   simp;exact⟨g2.trans g3,.inr ⟨j,x,rfl,hx,hp,hn⟩⟩
  |false=>
   simp[f8,wj];refine⟨xs.length-(j+1),by omega,j+1,rfl,by omega,by simp[f0,CK,vE],by simp[f1],by simp[f7],by simp,g2.trans g3,fun x' pL=> ?_⟩;rw[yn,hx] at pL;rcases tO.1 pL with h|h
   .exact hn x' h
   .simp at h;subst h;exact hp
 .have:j=xs.length:=by omega
  subst this;rw[xV] at hn;simp[f7,f8];exact⟨g2,.inl ⟨rfl,hn⟩⟩
theorem take_set {xs:List α} (h:i<xs.length) (v:α):(xs.set i v).take (i+1)=xs.take i++[v]:=by
 have h1:(xs.set i v).take i=xs.take i:=zV fun k=>by
  rw[DZ,DZ,eR];by_cases hk:k<i
  .rw[aU hk,aU hk,aT (by omega)]
  .rw[aT hk,aT hk]
 have h2:(xs.set i v)[i]? =some v:=by simp[h]
 rw[yn,h1,h2];rfl
def uy (p:α->Bool) (xs:List α):List α:=xs.filter (fun x=> !p x)
def akk (E:Enc α) (h:ae) (p:α->Bool) (y:Value) (A:SV) (xs:List α) (m:Nat) (e:Env) (h2:ae):Prop:=
 ∃(i j:Nat) (ys:List α),m=xs.length-j/\i<j/\j<=xs.length/\Env.get e 0=A.v/\Env.get e 1=y/\Env.get e 5= .int .i64 i/\Env.get e 6= .int .i64 j/\ab (ax A.v) h h2/\e_ E h2 A ys/\ys.length=xs.length/\ys.take i=uy p (xs.take j)/\ys.drop j=xs.drop j
def ae8 (E:Enc α) (p:α->Bool) (A:SV) (xs:List α) (h:ae) (v:Value) (h':ae):Prop:=ab (ax A.v) h h'/\ ∃A':SV,v=A'.v/\A'.a=A.a/\e_ E h' A' (uy p xs)
theorem Nk {f fi:Nat} {z:List Value} {z0:α} (hz:z=E.enc z0) (hf:FF f=some ⟨[.tmp 4],Io z E.sz fi,.no⟩) (PM:FF fi=some ⟨[.tmp 4],C8 E.sz,.no⟩) (ok:bu h) {xs:List α} (w:e_ E h A xs) (hl:xs.length<1000000) (H:T7 E p y A xs h):
  aF FF f [A.v,y] h (ae8 E p A xs h):=by
 have vE:=w.len;refine aF.of hf ?_;unfold Io;simp[vE];refine aE.call (V:=afc p xs h) (by simpa [vE] using Rk PM ok w (by omega) H) ?_;rintro _ h1 ⟨g1,⟨rfl,Vk⟩|⟨i0,x0,rfl,Le,Tp,um⟩⟩
 .simp;refine⟨g1.bt,A,by simp[vE],rfl,?_⟩;have:uy p xs=xs:=List.filter_eq_self.2 (fun x hx=>by simp[Vk x hx]);rw[this];exact w.bt ok g1
 have hi0:=(bY.mp Le).1;have w0:=wrap_i64 ((i0:Int)+1) (by omega) (by omega);simp[w0];have Rc:xs.take i0=uy p (xs.take (i0+1)):=by unfold uy;rw[yn,Le,List.filter_append];have:(xs.take i0).filter (fun x=> !p x)=xs.take i0:=List.filter_eq_self.2 (fun x hx=>by simp[um x hx]);rw[this];simp[Tp]
 refine aB.loop (akk E h p y A xs) ?_ (n:=xs.length-(i0+1)) ⟨i0,i0+1,xs,rfl,by omega,by omega,by simp[vE],by simp,by simp,by simp,g1.bt,w.bt ok g1,rfl,Rc,rfl⟩;rintro m e h2 ⟨i,j,ys,rfl,vL,hj,f0,f1,f5,f6,g2,w2,uw,ht,hd⟩;have Tx:=g2.ok;unfold Kv;by_cases aS:j<xs.length
 .have wj:=wrap_i64 ((j:Int)+1) (by omega) (by omega);have wi:=wrap_i64 ((i:Int)+1) (by omega) (by omega);obtain⟨x,hx⟩: ∃x,xs[j]? =some x:=⟨_,aX aS⟩;have hyx:ys[j]? =some x:=by have:=congrArg (fun l=>l[0]?) hd;simpa [hx] using this
  obtain⟨b,cs,o,s,CK,hb,_,_,dy,_⟩:=w2.el hyx;have r0:=dy 0 E.sz (by omega);simp[-ag,E.len] at r0;rw[XD (by rw[E.len];exact dK _)] at r0;simp at f0;rw[CK,vE] at f0;have FA:z.length=E.sz:=by rw[hz,E.len]
  have p_: ¬E.sz=0:=by have:=E.pos;omega
  have Hb:(E.enc x).take E.sz=E.enc x:=XD (by rw[E.len];exact dK _);have Zf:aJ z 0 (E.enc x)=E.enc x:=by unfold aJ;simp[FA,E.len]
  simp[f0,f1,f5,f6,aS,r0,E.len,E.plain,FA,Zf,Hb,-ag,av];refine aE.cut (fun h3=>ab aG h2 h3/\ ∃s,h3.tr.get h2.next=some (.aA (E.enc x) false 0 s)) ?_ ?_
  .exact⟨(ab.refl Tx).var _ _,h2.clock,by rw[aD,Zf];rfl⟩
  rintro h3 ⟨g3,s3,hV3⟩;refine aE.cD (V:=fun v h'=>v= .bool (p x)/\ab aG h3 h') (by simpa [f1] using H x (dk hx) h3 (g2.trans g3.bt)) ?_;rintro _ h4 ⟨rfl,g4⟩;have Mt:=g3.trans g4;have w4:=w2.bt Tx Mt;have U1:=g4.get g3.ok hV3 (fun h=>h);have htj:uy p (xs.take (j+1))=uy p (xs.take j)++(if p x then [] else [x]):=by unfold uy;rw[yn,hx,List.filter_append];cases hpx:p x<;>simp[hpx]
  have XU:ys.drop (j+1)=xs.drop (j+1):=by have:=congrArg (fun l=>l.drop 1) hd;simpa [List.drop_drop] using this
  cases hp:p x with
  |true=>
   simp[f6,wj];refine⟨xs.length-(j+1),by omega,i,j+1,ys,rfl,by omega,by omega,by simp[f0,CK,vE],by simp[f1],by simp[f5],by simp,g2.trans Mt.bt,w4,uw,?_,XU⟩;rw[htj,hp,ht];simp
  |false=>
   obtain⟨yi,hyi⟩: ∃yi,ys[i]? =some yi:=⟨_,aX (by omega)⟩;obtain⟨b',Il,o',s',af8,Gc,_,eH,_,fH⟩:=w4.el hyi;rw[CK] at af8;cases af8;have ff:i<xs.length:=by omega
   have XW:=eH 0 E.sz (by omega);simp only[ID] at XW;simp[f0,f1,f5,f6,U1,E.len,E.plain,Hb,ff,Gc,XW,wj,wi];have Eh:=fH x 0 (E.enc x) (by rw[E.len];omega) (by unfold aJ;simp[E.len]) (put h4 b (i*E.sz) Il (E.enc x) o') ⟨_,aD _ _ _ _ _ _⟩;refine⟨xs.length-(j+1),by omega,i+1,j+1,ys.set i x,rfl,by omega,by omega,by simp[f0,CK,vE],by simp[f1],by simp,by simp,(g2.trans Mt.bt).trans ((aM Mt.ok Gc).bJ (fun y _ e=>e▸bU CK)),Eh,by simp[uw],?_,?_⟩
   .rw[take_set (by omega),htj,hp,ht];simp
   .rw[List.drop_set_of_lt (by omega),XU]
 .have hje:j=xs.length:=by omega
  subst hje;rw[xV] at ht;obtain⟨hAl2,hw2⟩:=w2;rcases hw2 with⟨_,_,rfl⟩|⟨b,o,s,bh,CK,hc,hb,ho⟩
  .simp at uw;omega
  simp at f0;rw[CK,vE] at f0;have p_: ¬E.sz=0:=by have:=E.pos;omega
  have hie:i<=xs.length:=by omega
  have Vn:(o.beq 0||o.beq E.sz)=true:=by
   rcases ho with h|h
   .rw[h];rfl
   .rw[h];simp
  have hni: ¬xs.length-i=0:=by omega
  have uJ:(jW z (xs.length-i))=E.flat (List.replicate (xs.length-i) z0):=Dg E z0 hz _;have eH:i*E.sz+(xs.length-i)*E.sz<=(ys.length+bh.length)*E.sz:=by rw[<-rU];exact CI _ (by omega)
  have acZ:(E.flat (List.replicate (xs.length-i) z0)).length=(xs.length-i)*E.sz:=by rw[E.bC];simp
  obtain⟨cs,D8⟩: ∃cs,cs=E.flat (ys++bh):=⟨_,rfl⟩;have vI:cs.length=(ys.length+bh.length)*E.sz:=by rw[D8,E.bC,IG]
  obtain⟨zs,MH⟩: ∃zs,zs=E.flat (List.replicate (xs.length-i) z0):=⟨_,rfl⟩;rw[<-D8] at hb;rw[<-MH] at uJ acZ;rw[<-acZ,<-vI] at eH;have hiA:i<=A.c:=by omega
  simp[f0,f5,f6,hie,hb,Vn,hni,uJ,eH,hiA];refine⟨g2.trans ((aM Tx hb).bJ (fun x _ e=>e▸bU CK)),⟨A.a,i,A.c⟩,by simp[CK],rfl,?_⟩;have sH:(uy p xs).length=i:=by rw[<-ht];simp;omega
  refine⟨sH.symm,.inr ⟨b,o,h2.clock,List.replicate (xs.length-i) z0++bh,CK,by simp[sH];omega,?_,ho⟩⟩;rw[aD,D8,MH];have:=Fj E (ys.take i) (List.replicate (xs.length-i) z0) (ys.drop i++bh) (by simp;omega);have e1:(ys.take i).length=i:=by simp;omega
  rw[e1,<-xU,List.take_append_drop] at this;rw[this,<-ht];have e2:(ys.drop i++bh).drop (List.replicate (xs.length-i) z0).length=bh:=by rw[List.drop_append];simp[uw];omega
  rw[e2,xU]
end
section
variable {h h':ae} {n0 ai:Nat} {κ cap:Nat->Nat} {rs:List XR}
theorem J7 {A A':SV} (e:A'.a=A.a) (k:ax A'.v b):ax A.v b:=by obtain⟨off,n,c,e2⟩:=k;simp at e2;exact⟨off,A.l,A.c,by simp[<-e,e2.1]⟩
theorem eL {f:XR->SV} {r r':XR} (hr:rs[i]? =some r) (d: ∀(i j:Nat) (ri rj:XR) (b:Nat),rs[i]? =some ri->rs[j]? =some rj->i≠j->ax (f ri).v b-> ¬ax (f rj).v b) (e:(f r').a=(f r).a):
  ∀(i' j:Nat) (ri rj:XR) (b:Nat),(rs.set i r')[i']? =some ri->(rs.set i r')[j]? =some rj->i'≠j->ax (f ri).v b-> ¬ax (f rj).v b:=by
 have hi:=(bY.mp hr).1;intro i' j ri rj b h1 h2 hn hb dq;rw[eR] at h1 h2;by_cases e1:i=i'
 .rw[aU e1,aU hi] at h1;rw[aT (by omega)] at h2;cases h1;exact d i j r rj b hr h2 (by omega) (J7 e hb) dq
 .rw[aT e1] at h1;by_cases e2:i=j
  .rw[aU e2,aU hi] at h2;cases h2;exact d i' i ri r b h1 hr (by omega) hb (J7 e dq)
  .rw[aT e2] at h2;exact d i' j ri rj b h1 h2 hn hb dq
theorem cq.SF (w:cq h n0 ai κ cap rs) (ok:bu h) (hr:rs[i]? =some r) (g:ab (ax r.P.v) h h') {P':SV} {WG:List (Int×SV)} (hP:e_ jR h' P' WG) (e:P'.a=r.P.a) (gM: ∀p∈WG,(0<=p.1/\p.1<ai)/\VA κ cap p.2):
  cq h' n0 ai κ cap (rs.set i { r with P:=P',ps:=WG }):=by
 have hi:=(bY.mp hr).1;have R:=w.r i r hr;refine⟨fun j x hx=> ?_,eL (f:=(·.P)) hr w.dP e,eL (f:=(·.L)) hr w.dL rfl,eL (f:=(·.T)) hr w.dT rfl,w.V.grow ok g (fun b hb=>by have:=R.kP b hb;omega),fun b hb=>by have:=w.new b hb;have:=g.next;omega⟩;rw[eR] at hx;by_cases e1:i=j
 .rw[aU e1,aU hi] at hx;cases hx;exact⟨hP,R.L.grow ok g (fun b hb hs=>by have:=R.kP b hs;have:=R.kL b hb;omega),R.T.grow ok g (fun b hb hs=>by have:=R.kP b hs;have:=R.kT b hb;omega),fun b hb=>R.kP b (J7 e hb),R.kL,R.kT,gM,R.ls,R.on⟩
 .rw[aT e1] at hx;have Rx:=w.r j x hx;exact Rx.grow ok g (fun b hb=>⟨w.dP i j r x b hr hx e1 hb,fun h=>by have:=R.kP b hb;have:=Rx.kL b h;omega,fun h=>by have:=R.kP b hb;have:=Rx.kT b h;omega⟩)
theorem cq.aea (w:cq h n0 ai κ cap rs) (ok:bu h) (hr:rs[i]? =some r) (g:ab (ax r.L.v) h h') {L':SV} {I9:List XI} (hL:e_ mJ h' L' I9) (e:L'.a=r.L.a) (JQ: ∀x∈I9,x.dst<ai/\gK ai x.a/\gK ai x.b/\VA κ cap x.args):
  cq h' n0 ai κ cap (rs.set i { r with L:=L',ls:=I9 }):=by
 have hi:=(bY.mp hr).1;have R:=w.r i r hr;refine⟨fun j x hx=> ?_,eL (f:=(·.P)) hr w.dP rfl,eL (f:=(·.L)) hr w.dL e,eL (f:=(·.T)) hr w.dT rfl,w.V.grow ok g (fun b hb=>by have:=R.kL b hb;omega),fun b hb=>by have:=w.new b hb;have:=g.next;omega⟩;rw[eR] at hx;by_cases e1:i=j
 .rw[aU e1,aU hi] at hx;cases hx;exact⟨R.P.grow ok g (fun b hb hs=>by have:=R.kL b hs;have:=R.kP b hb;omega),hL,R.T.grow ok g (fun b hb hs=>by have:=R.kL b hs;have:=R.kT b hb;omega),R.kP,fun b hb=>R.kL b (J7 e hb),R.kT,R.ps,JQ,R.on⟩
 .rw[aT e1] at hx;have Rx:=w.r j x hx;exact Rx.grow ok g (fun b hb=>⟨fun h=>by have:=R.kL b hb;have:=Rx.kP b h;omega,w.dL i j r x b hr hx e1 hb,fun h=>by have:=R.kL b hb;have:=Rx.kT b h;omega⟩)
theorem cq.apG (w:cq h n0 ai κ cap rs) (ok:bu h) (hr:rs[i]? =some r) (g:ab (ax r.T.v) h h') {T':SV} {BC:List Int} (hT:e_ bp h' T' BC) (e:T'.a=r.T.a):
  cq h' n0 ai κ cap (rs.set i { r with T:=T',ts:=BC }):=by
 have hi:=(bY.mp hr).1;have R:=w.r i r hr;refine⟨fun j x hx=> ?_,eL (f:=(·.P)) hr w.dP rfl,eL (f:=(·.L)) hr w.dL rfl,eL (f:=(·.T)) hr w.dT e,w.V.grow ok g (fun b hb=>by have:=R.kT b hb;omega),fun b hb=>by have:=w.new b hb;have:=g.next;omega⟩;rw[eR] at hx;by_cases e1:i=j
 .rw[aU e1,aU hi] at hx;cases hx;exact⟨R.P.grow ok g (fun b hb hs=>by have:=R.kT b hs;have:=R.kP b hb;omega),R.L.grow ok g (fun b hb hs=>by have:=R.kT b hs;have:=R.kL b hb;omega),hT,R.kP,R.kL,fun b hb=>R.kT b (J7 e hb),R.ps,R.ls,R.on⟩
 .rw[aT e1] at hx;have Rx:=w.r j x hx;exact Rx.grow ok g (fun b hb=>⟨fun h=>by have:=R.kT b hb;have:=Rx.kP b h;omega,fun h=>by have:=R.kT b hb;have:=Rx.kL b h;omega,w.dT i j r x b hr hx e1 hb⟩)
theorem cq.abb (w:cq h n0 ai κ cap rs) (hr:rs[i]? =some r) (k:Int) (on:Bool×Int) (hon:gK ai on):
  cq h n0 ai κ cap (rs.set i { r with kind:=k,on:=on }):=by
 have hi:=(bY.mp hr).1;have R:=w.r i r hr;refine⟨fun j x hx=> ?_,eL (f:=(·.P)) hr w.dP rfl,eL (f:=(·.L)) hr w.dL rfl,eL (f:=(·.T)) hr w.dT rfl,w.V,w.new⟩;rw[eR] at hx;by_cases e1:i=j
 .rw[aU e1,aU hi] at hx;cases hx;exact⟨R.P,R.L,R.T,R.kP,R.kL,R.kT,R.ps,R.ls,hon⟩
 .rw[aT e1] at hx;exact w.r j x hx
end
structure akF (h:ae) (W N nb ai:Nat) (az:Int) (Lx:List Bool):Prop where
 hW: ∃s,h.tr.get W=some (.aA [.int .i64 az] false 0 s)
 hN: ∃s,h.tr.get N=some (.aA [.slice (some ⟨nb,0,none⟩) ai ai] false 0 s)
 hb: ∃s,h.tr.get nb=some (.aA (wB.flat Lx) false 0 s)
 nl:Lx.length=ai
def lK:Enc (Int×(Bool×Int)):=⟨fun x=>[.int .i64 x.1,.bool x.2.1,.int .i64 x.2.2],3,fun _=>rfl,by decide,fun _=>rfl⟩
@[simp] theorem Yv:lK.sz=3:=rfl
@[simp] theorem Uv (x:Int×(Bool×Int)):lK.enc x=[.int .i64 x.1,.bool x.2.1,.int .i64 x.2.2]:=rfl
theorem bI {W:Nat} {ws:List (Int×(Bool×Int))} {o s:Nat} {ro:Bool} (hW:h.tr.get W=some (.aA (lK.flat ws) ro o s)) (hk:ws[k]? =some x):bc h W (k*3) 3=some [.int .i64 x.1,.bool x.2.1,.int .i64 x.2.2]:=by have hl:=(bY.mp hk).1;have:=lK.nq ws k 0 3 x hk (by decide);rw[cy hW (by rw[lK.bC];simp;omega)];simp only[Yv,ID] at this;rw[this];rfl
theorem gm (ws:List (Int×(Bool×Int))) (i:Nat) (x:Int×(Bool×Int)) (h:i<ws.length):aJ (lK.flat ws) (i*3) [.int .i64 x.1,.bool x.2.1,.int .i64 x.2.2]=lK.flat (ws.set i x):=by have:=lK.fu ws i x h;simpa using this
def SA (P:Int×(Bool×Int)->Prop) (d n o:Nat) (h0 h:ae):Prop:=ab (· =d) h0 h/\ ∃xs s,h.tr.get d=some (.aA (lK.flat xs) false o s)/\xs.length=n/\ ∀x∈xs,P x
def jd (y:Value):Prop:= ∀(h:ae) (x z:Int×(Bool×Int)),bu h->cP FF y [.agg ⟨lK.enc x⟩,.agg ⟨lK.enc z⟩] h (fun v h'=>(∃c:Int,v= .int .i64 c)/\ab aG h h')
section
variable {P:Int×(Bool×Int)->Prop} {d n o:Nat} {h0:ae}
theorem SA.bt {h h':ae} (w:SA P d n o h0 h) (g:ab aG h h'):SA P d n o h0 h':=by obtain⟨g0,xs,s,hb,hl,hP⟩:=w;exact⟨g0.trans g.bt,xs,s,g.get g0.ok hb (fun h=>h),hl,hP⟩
theorem SA.swap {xs:List (Int×(Bool×Int))} {x y:Int×(Bool×Int)} (g:ab (· =d) h0 h) (hb:h.tr.get d=some (.aA (lK.flat xs) false o s)) (hl:xs.length=n) (hP: ∀x∈xs,P x) (hi:xs[i]? =some x) (hj:xs[j]? =some y):
  SA P d n o h0 (put (put h d (i*3) (lK.flat xs) [.int .i64 y.1,.bool y.2.1,.int .i64 y.2.2] o) d (j*3) (lK.flat (xs.set i y)) [.int .i64 x.1,.bool x.2.1,.int .i64 x.2.2] o):=by
 have li:=(bY.mp hi).1;have lj:=(bY.mp hj).1;have dq:(put h d (i*3) (lK.flat xs) [.int .i64 y.1,.bool y.2.1,.int .i64 y.2.2] o).tr.get d=some (.aA (lK.flat (xs.set i y)) false o h.clock):=by rw[aD,gm xs i y li]
 have g2:=g.trans (aM g.ok hb (off:=i*3) (vs:=[.int .i64 y.1,.bool y.2.1,.int .i64 y.2.2]));refine⟨g2.trans (aM g2.ok dq),(xs.set i y).set j x,_,by rw[aD,gm _ j x (by simpa using lj)],by simp[hl],fun z hz=> ?_⟩;rcases KG hz with h1|rfl
 .rcases KG h1 with h2|rfl
  .exact hP z h2
  .exact hP _ (dk hj)
 .exact hP _ (dk hi)
def aku (P:Int×(Bool×Int)->Prop) (d n o c:Nat) (h0:ae) (y:Value) (a b i:Nat) (m:Nat) (e:Env) (h':ae):Prop:=
 ∃j:Nat,m=j/\a<=j/\j<b/\Env.get e 0= .slice (some ⟨d,0,none⟩) n c/\Env.get e 1= .int .i64 a/\Env.get e 2= .int .i64 b/\Env.get e 3=y/\Env.get e 8= .int .i64 i/\Env.get e 9= .int .i64 j/\SA P d n o h0 h'
theorem I2 (Y:jd y) {c a b i:Nat} (iz:b<=n) (hn:n<1000000) (U2:a<=i) (hib:i<b) (w:SA P d n o h0 h) {e:Env} {Q:aP->Env->ae->Prop}
  (f0:Env.get e 0= .slice (some ⟨d,0,none⟩) n c) (f1:Env.get e 1= .int .i64 a) (f2:Env.get e 2= .int .i64 b) (f3:Env.get e 3=y) (f8:Env.get e 8= .int .i64 i) (f9:Env.get e 9= .int .i64 i)
  (C: ∀e' h',Env.get e' 0= .slice (some ⟨d,0,none⟩) n c->Env.get e' 1= .int .i64 a->Env.get e' 2= .int .i64 b->Env.get e' 3=y->Env.get e' 8= .int .i64 i->SA P d n o h0 h'->Q (.exit 2) e' h'):aB FF (.loop cE) e h Q:=by
 refine aB.loop (aku P d n o c h0 y a b i) ?_ (n:=i) ⟨i,rfl,U2,hib,f0,f1,f2,f3,f8,f9,w⟩;rintro j e' h' ⟨_,rfl,XP,hjb,q0,q1,q2,q3,q8,q9,w'⟩;obtain⟨g,xs,s,hb,hl,hP⟩:=id w';unfold cE;by_cases hja:a<j
 .obtain⟨k,hk⟩: ∃k,k=j-1:=⟨_,rfl⟩;have wk:IntKind.i64.wrap ((j:Int)-1)=(k:Int):=by rw[wrap_i64 _ (by omega) (by omega)];omega
  have Eb:j<n:=by omega
  have Ec:k<n:=by omega
  obtain⟨x,hx⟩: ∃x,xs[j]? =some x:=⟨_,aX (by omega)⟩;obtain⟨z,hz⟩: ∃z,xs[k]? =some z:=⟨_,aX (by omega)⟩;have rx:=bI hb hx;have rz:=bI hb hz;simp[q0,q1,q3,q9,hja,Eb,Ec,wk,rx,rz,ay,-ag];refine aQ.cut (fun h1=>ab aG h' h1) ?_ ?_
  .exact(ab.refl g.ok).tick
  intro h1 g1;refine aQ.cD (V:=fun v BW=>(∃c:Int,v= .int .i64 c)/\ab aG h1 BW) (by simpa [q3] using Y h1 x z g1.ok) ?_;rintro _ h2 ⟨⟨cv,rfl⟩,g2⟩;have w2:=(w'.bt g1).bt g2;obtain⟨gg,qc,s2,dq,tT,IM⟩:=id w2;obtain⟨x2,Hd⟩: ∃x2,qc[j]? =some x2:=⟨_,aX (by omega)⟩;obtain⟨z2,vK⟩: ∃z2,qc[k]? =some z2:=⟨_,aX (by omega)⟩;have WZ:=bI dq Hd;have W0:=bI dq vK;by_cases hc:cv<0
  .have l1:j*3+3<=qc.length*3:=by omega
   have l2:k*3+3<=qc.length*3:=by omega
   have sp:=gm qc j z2 (by omega);simp[hc,q0,q1,q3,q9,Eb,Ec,wk,WZ,W0,ay,dq,l1,l2,sp,-ag];exact⟨k,by omega,k,rfl,by omega,by omega,by simp[q0],by simp[q1],by simp[q2],by simp[q3],by simp[q8],by simp,SA.swap (h:=tick h2) gg.tick dq tT IM Hd vK⟩
  .simp[hc];exact C _ _ (by simp[q0]) (by simp[q1]) (by simp[q2]) (by simp[q3]) (by simp[q8]) w2
 .have hja': ¬(a:Int)<j:=by omega
  simp[q1,q9,hja];exact C _ _ (by simp[q0]) (by simp[q1]) (by simp[q2]) (by simp[q3]) (by simp[q8]) (w'.bt ((ab.refl g.ok).tick))
def akt (P:Int×(Bool×Int)->Prop) (d n o c:Nat) (h0:ae) (y:Value) (a b:Nat) (m:Nat) (e:Env) (h':ae):Prop:=
 ∃i:Nat,m=b+1-i/\a<i/\i<=b+1/\Env.get e 0= .slice (some ⟨d,0,none⟩) n c/\Env.get e 1= .int .i64 a/\Env.get e 2= .int .i64 b/\Env.get e 3=y/\Env.get e 8= .int .i64 i/\SA P d n o h0 h'
theorem En (Y:jd y) {c a b:Nat} (iz:b<=n) (zX:a<=b) (hn:n<1000000) (w:SA P d n o h0 h):
  aF FF ep [.slice (some ⟨d,0,none⟩) n c,.int .i64 a,.int .i64 b,y] h (fun _ h'=>SA P d n o h0 h'):=by
 refine aF.of ee ?_;unfold cM;have wa:=wrap_i64 ((a:Int)+1) (by omega) (by omega);simp[wa];refine aB.loop (akt P d n o c h0 y a b) ?_ (n:=b-a) ⟨a+1,by omega,by omega,by omega,by simp,by simp,by simp,by simp,by simp,w⟩;rintro m e h' ⟨i,rfl,U2,hib,q0,q1,q2,q3,q8,w'⟩;unfold cG;by_cases hi:i<b
 .have wi:=wrap_i64 ((i:Int)+1) (by omega) (by omega);simp[q2,q8,hi];refine I2 Y (a:=a) (b:=b) (c:=c) (i:=i) iz hn (by omega) hi w' (by simp[q0]) (by simp[q1]) (by simp[q2]) (by simp[q3]) (by simp[q8]) (by simp) ?_;intro e2 h2 k0 k1 k2 k3 k8 w2;simp[k8,wi];exact⟨b+1-(i+1),by omega,i+1,rfl,by omega,by omega,by simp[k0],by simp[k1],by simp[k2],by simp[k3],by simp,w2⟩
 .have C2: ¬(i:Int)<b:=by omega
  simp[q2,q8,hi];exact w'
theorem abM:jd (.func (.func tF) #[] #[]):=by intro h x z ok;refine cP.func ?_;refine aF.of FQ ?_;unfold yl;simp;exact((ab.refl ok).new _ _).new _ _
def RvI (P:Int×(Bool×Int)->Prop) (d n o c:Nat) (h0:ae) (b:Nat) (m:Nat) (e:Env) (h':ae):Prop:=
 ∃(i:Nat) (j:Int),m=b-i/\i<=b/\j<b/\ -1<=j/\Env.get e 0= .slice (some ⟨d,0,none⟩) n c/\Env.get e 8= .int .i64 i/\Env.get e 9= .int .i64 j/\SA P d n o h0 h'
theorem Gm {y:Value} {c a b:Nat} (iz:b<=n) (zX:a<=b) (hn:n<1000000) (w:SA P d n o h0 h):
  aF FF eD [.slice (some ⟨d,0,none⟩) n c,.int .i64 a,.int .i64 b,y] h (fun _ h'=>SA P d n o h0 h'):=by
 refine aF.of jr ?_;unfold eA;have wb:=wrap_i64 ((b:Int)-1) (by omega) (by omega);simp[wb];refine aB.loop (RvI P d n o c h0 b) ?_ (n:=b-a) ⟨a,(b:Int)-1,rfl,by omega,by omega,by omega,by simp,by simp,by simp,w⟩;rintro m e h' ⟨i,j,rfl,hib,hjb,Fy,q0,q8,q9,w'⟩;unfold dW;by_cases vL:(i:Int)<j
 .obtain⟨k,rfl⟩: ∃k:Nat,j=k:=⟨j.toNat,by omega⟩;have hik:i<k:=by omega
  have tS:i<n:=by omega
  have Ec:k<n:=by omega
  have wi:=wrap_i64 ((i:Int)+1) (by omega) (by omega);have wk:=wrap_i64 ((k:Int)-1) (by omega) (by omega);obtain⟨g,xs,s,hb,hl,hP⟩:=id w';obtain⟨x,hx⟩: ∃x,xs[i]? =some x:=⟨_,aX (by omega)⟩;obtain⟨z,hz⟩: ∃z,xs[k]? =some z:=⟨_,aX (by omega)⟩;have rx:=bI hb hx;have rz:=bI hb hz;have l1:i*3+3<=xs.length*3:=by omega
  have l2:k*3+3<=xs.length*3:=by omega
  have sp:=gm xs i z (by omega);simp[q0,q8,q9,hik,tS,Ec,wi,wk,rx,rz,ay,hb,l1,l2,sp,-ag];exact⟨b-(i+1),by omega,i+1,(k:Int)-1,rfl,by omega,by omega,by omega,by simp[q0],by simp,by simp,SA.swap (h:=tick h') g.tick hb hl hP hx hz⟩
 .simp[q8,q9,vL];exact w'
end
section
variable {P:Int×(Bool×Int)->Prop} {d n o c a:Nat} {h0:ae} {y:Value}
structure PE (d n c a:Nat) (y:Value) (e:Env):Prop where
 f0:Env.get e 0= .slice (some ⟨d,0,none⟩) n c
 f1:Env.get e 1= .int .i64 a
 f4:Env.get e 4=y
def akI (P:Int×(Bool×Int)->Prop) (d n o c a:Nat) (h0:ae) (y:Value) (i0 j:Nat) (m:Nat) (e:Env) (h':ae):Prop:=
 ∃i:Nat,m=j+1-i/\i0<=i/\i<=max i0 (j+1)/\PE d n c a y e/\Env.get e 11= .int .i64 i/\Env.get e 12= .int .i64 j/\SA P d n o h0 h'
theorem aii (Y:jd y) (hn:n<1000000) (Bj:a<n) (hj:j<n) (tS:i<=n) (w:SA P d n o h0 h) {Q:aP->Env->ae->Prop} (E:PE d n c a y e) (f11:Env.get e 11= .int .i64 i) (f12:Env.get e 12= .int .i64 j)
  (K: ∀e' h' i',PE d n c a y e'->i<=i'->i'<=max i (j+1)->Env.get e' 11= .int .i64 (i':Nat)->Env.get e' 12= .int .i64 j->SA P d n o h0 h'->Q (.exit 2) e' h'):aB FF (.loop cC) e h Q:=by
 refine aB.loop (akI P d n o c a h0 y i j) ?_ (n:=j+1-i) ⟨i,rfl,by omega,by omega,E,f11,f12,w⟩;rintro m e' h' ⟨i',rfl,JP,Gd,E',mE,kg,w'⟩;obtain⟨g,xs,s,hb,hl,hP⟩:=id w';unfold cC;by_cases vL:i'<=j
 .have Ve:i'<n:=by omega
  have wi:=wrap_i64 ((i':Int)+1) (by omega) (by omega);obtain⟨x,hx⟩: ∃x,xs[a]? =some x:=⟨_,aX (by omega)⟩;obtain⟨z,hz⟩: ∃z,xs[i']? =some z:=⟨_,aX (by omega)⟩;have rx:=bI hb hx;have rz:=bI hb hz;simp[E'.f0,E'.f1,E'.f4,mE,kg,vL,Bj,Ve,rx,rz,ay,-ag];refine aQ.cut (fun h1=>ab aG h' h1) ?_ ?_
  .exact(ab.refl g.ok).tick
  intro h1 g1;refine aQ.cD (V:=fun v BW=>(∃c:Int,v= .int .i64 c)/\ab aG h1 BW) (by simpa [E'.f4] using Y h1 x z g1.ok) ?_;rintro _ h2 ⟨⟨cv,rfl⟩,g2⟩;have w2:=(w'.bt g1).bt g2;by_cases hc:cv<0
  .simp[hc];exact K _ _ i' ⟨by simp[E'.f0],by simp[E'.f1],by simp[E'.f4]⟩ JP Gd (by simp[mE]) (by simp[kg]) w2
  .simp[hc,mE,wi];exact⟨j+1-(i'+1),by omega,i'+1,rfl,by omega,by omega,⟨by simp[E'.f0],by simp[E'.f1],by simp[E'.f4]⟩,by simp,by simp[kg],w2⟩
 .simp[mE,kg,vL];exact K _ _ i' ⟨by simp[E'.f0],by simp[E'.f1],by simp[E'.f4]⟩ JP Gd (by simp[mE]) (by simp[kg]) (w'.bt ((ab.refl g.ok).tick))
def akH (P:Int×(Bool×Int)->Prop) (d n o c a:Nat) (h0:ae) (y:Value) (i j0:Nat) (m:Nat) (e:Env) (h':ae):Prop:=
 ∃j:Nat,m=j/\j<=j0/\a<=j/\PE d n c a y e/\Env.get e 11= .int .i64 i/\Env.get e 12= .int .i64 j/\SA P d n o h0 h'
theorem ZL (Y:jd y) (hn:n<1000000) (hj:j<n) (U2:a<i) (XP:a<=j) (w:SA P d n o h0 h) {Q:aP->Env->ae->Prop} (E:PE d n c a y e) (f11:Env.get e 11= .int .i64 i) (f12:Env.get e 12= .int .i64 j)
  (K: ∀e' h' j',PE d n c a y e'->j'<=j->a<=j'->Env.get e' 11= .int .i64 i->Env.get e' 12= .int .i64 (j':Nat)->SA P d n o h0 h'->Q (.exit 4) e' h'):aB FF (.loop cA) e h Q:=by
 refine aB.loop (akH P d n o c a h0 y i j) ?_ (n:=j) ⟨j,rfl,by omega,XP,E,f11,f12,w⟩;rintro j' e' h' ⟨_,rfl,Fy,Ea,E',mE,kg,w'⟩;obtain⟨g,xs,s,hb,hl,hP⟩:=id w';unfold cA;by_cases vL:i<=j'
 .have Bj:a<n:=by omega
  have Vg:j'<n:=by omega
  obtain⟨k,hk⟩: ∃k,k=j'-1:=⟨_,rfl⟩;have wk:IntKind.i64.wrap ((j':Int)-1)=(k:Int):=by rw[wrap_i64 _ (by omega) (by omega)];omega
  obtain⟨x,hx⟩: ∃x,xs[a]? =some x:=⟨_,aX (by omega)⟩;obtain⟨z,hz⟩: ∃z,xs[j']? =some z:=⟨_,aX (by omega)⟩;have rx:=bI hb hx;have rz:=bI hb hz;simp[E'.f0,E'.f1,E'.f4,mE,kg,vL,Bj,Vg,rx,rz,ay,-ag];refine aQ.cut (fun h1=>ab aG h' h1) ?_ ?_
  .exact(ab.refl g.ok).tick
  intro h1 g1;refine aQ.cD (V:=fun v BW=>(∃c:Int,v= .int .i64 c)/\ab aG h1 BW) (by simpa [E'.f4] using Y h1 x z g1.ok) ?_;rintro _ h2 ⟨⟨cv,rfl⟩,g2⟩;have w2:=(w'.bt g1).bt g2;by_cases hc:cv<0
  .simp[hc,kg,wk];exact⟨k,by omega,k,rfl,by omega,by omega,⟨by simp[E'.f0],by simp[E'.f1],by simp[E'.f4]⟩,by simp[mE],by simp,w2⟩
  .simp[hc];exact K _ _ j' ⟨by simp[E'.f0],by simp[E'.f1],by simp[E'.f4]⟩ Fy Ea (by simp[mE]) (by simp[kg]) w2
 .simp[mE,kg,vL];exact K _ _ j' ⟨by simp[E'.f0],by simp[E'.f1],by simp[E'.f4]⟩ Fy Ea (by simp[mE]) (by simp[kg]) (w'.bt ((ab.refl g.ok).tick))
def akJ (P:Int×(Bool×Int)->Prop) (d n o c a b:Nat) (h0:ae) (y:Value) (m:Nat) (e:Env) (h':ae):Prop:=
 ∃i j:Nat,m=j+1-i/\a<i/\i<=b/\a<=j/\j<b/\PE d n c a y e/\Env.get e 11= .int .i64 i/\Env.get e 12= .int .i64 j/\SA P d n o h0 h'
def afj (P:Int×(Bool×Int)->Prop) (d n o a b:Nat) (h0:ae) (v:Value) (h':ae):Prop:=SA P d n o h0 h'/\ ∃i:Nat,v= .int .i64 i/\a<i/\i<=b
theorem LG (Y:jd y) (iz:b<=n) (hn:n<1000000) (hap:a<=pv) (hpb:pv<b) (w:SA P d n o h0 h):
  aF FF dV [.slice (some ⟨d,0,none⟩) n c,.int .i64 a,.int .i64 b,.int .i64 pv,y] h (afj P d n o a b h0):=by
 obtain⟨g,xs,s,hb,hl,hP⟩:=id w;have Bj:a<n:=by omega
 have NY:pv<n:=by omega
 obtain⟨x,hx⟩: ∃x,xs[a]? =some x:=⟨_,aX (by omega)⟩;obtain⟨z,hz⟩: ∃z,xs[pv]? =some z:=⟨_,aX (by omega)⟩;have rx:=bI hb hx;have rz:=bI hb hz;have l1:a*3+3<=xs.length*3:=by omega
 have l2:pv*3+3<=xs.length*3:=by omega
 have sp:=gm xs a z (by omega);have wa:=wrap_i64 ((a:Int)+1) (by omega) (by omega);obtain⟨k,hk⟩: ∃k,k=b-1:=⟨_,rfl⟩;have wb:IntKind.i64.wrap ((b:Int)-1)=(k:Int):=by rw[wrap_i64 _ (by omega) (by omega)];omega
 refine aF.of iJ ?_;unfold dU;simp[Bj,NY,rx,rz,ay,hb,l1,l2,sp,wa,wb,-ag];have w1:=SA.swap (h:=tick h) g.tick hb hl hP hx hz;refine aB.loop (akJ P d n o c a b h0 y) ?_ (n:=k+1-(a+1)) ⟨a+1,k,rfl,by omega,by omega,by omega,by omega,⟨by simp,by simp,by simp⟩,by simp,by simp,w1⟩;rintro m e' h' ⟨i,j,rfl,U2,hib,XP,hjb,E',mE,kg,w'⟩;unfold dN;simp;refine aii Y hn Bj (by omega) (by omega) w' E' mE kg ?_;intro e1 h1 i1 E1 JP ag4 k11 VP w1;simp;refine ZL Y hn (by omega) (by omega) XP w1 E1 k11 VP ?_;intro e2 h2 j2 E2 Ea ag7 m11 MI w2;by_cases vL:j2<i1
 .have ag5:(j2:Int)<i1:=by omega
  simp[m11,MI,vL];rw[qW _ _ _ _ _ (by decide)];simp[m11];exact⟨w2,i1,rfl,by omega,by omega⟩
 .obtain⟨g2,qc,s2,dq,tT,IM⟩:=id w2;have Vd:i1<n:=by omega
  have NQ:j2<n:=by omega
  obtain⟨x2,Hd⟩: ∃x2,qc[i1]? =some x2:=⟨_,aX (by omega)⟩;obtain⟨z2,vK⟩: ∃z2,qc[j2]? =some z2:=⟨_,aX (by omega)⟩;have WZ:=bI dq Hd;have W0:=bI dq vK;have l3:i1*3+3<=qc.length*3:=by omega
  have l4:j2*3+3<=qc.length*3:=by omega
  have Xj:=gm qc i1 z2 (by omega);have wi:=wrap_i64 ((i1:Int)+1) (by omega) (by omega);obtain⟨k2,BZ⟩: ∃k2,k2=j2-1:=⟨_,rfl⟩;have wk:IntKind.i64.wrap ((j2:Int)-1)=(k2:Int):=by rw[wrap_i64 _ (by omega) (by omega)];omega
  simp[E2.f0,m11,MI,vL,Vd,NQ,WZ,W0,ay,dq,l3,l4,Xj,wi,wk,-ag];exact⟨k2+1-(i1+1),by omega,i1+1,k2,rfl,by omega,by omega,by omega,by omega,⟨by simp[E2.f0],by simp[E2.f1],by simp[E2.f4]⟩,by simp,by simp,SA.swap (h:=tick h2) g2.tick dq tT IM Hd vK⟩
end
section
variable {P:Int×(Bool×Int)->Prop} {d n o c a:Nat} {h0:ae} {y:Value}
def akO (P:Int×(Bool×Int)->Prop) (d n o c a:Nat) (h0:ae) (y:Value) (i0 j:Nat) (m:Nat) (e:Env) (h':ae):Prop:=
 ∃i:Nat,m=j+1-i/\i0<=i/\i<=max i0 (j+1)/\PE d n c a y e/\Env.get e 12= .int .i64 i/\Env.get e 13= .int .i64 j/\SA P d n o h0 h'
theorem adN (Y:jd y) (hn:n<1000000) (Bj:a<n) (hj:j<n) (tS:i<=n) (w:SA P d n o h0 h) {Q:aP->Env->ae->Prop} (E:PE d n c a y e) (f11:Env.get e 12= .int .i64 i) (f12:Env.get e 13= .int .i64 j)
  (K: ∀e' h' i',PE d n c a y e'->i<=i'->i'<=max i (j+1)->Env.get e' 12= .int .i64 (i':Nat)->Env.get e' 13= .int .i64 j->SA P d n o h0 h'->Q (.exit 0) e' h'):aB FF (.loop df) e h Q:=by
 refine aB.loop (akO P d n o c a h0 y i j) ?_ (n:=j+1-i) ⟨i,rfl,by omega,by omega,E,f11,f12,w⟩;rintro m e' h' ⟨i',rfl,JP,Gd,E',mE,kg,w'⟩;obtain⟨g,xs,s,hb,hl,hP⟩:=id w';unfold df;by_cases vL:i'<=j
 .have Ve:i'<n:=by omega
  have wi:=wrap_i64 ((i':Int)+1) (by omega) (by omega);obtain⟨x,hx⟩: ∃x,xs[a]? =some x:=⟨_,aX (by omega)⟩;obtain⟨z,hz⟩: ∃z,xs[i']? =some z:=⟨_,aX (by omega)⟩;have rx:=bI hb hx;have rz:=bI hb hz;simp[E'.f0,E'.f1,E'.f4,mE,kg,vL,Bj,Ve,rx,rz,ay,-ag];refine aQ.cut (fun h1=>ab aG h' h1) ?_ ?_
  .exact(ab.refl g.ok).tick
  intro h1 g1;refine aQ.cD (V:=fun v BW=>(∃c:Int,v= .int .i64 c)/\ab aG h1 BW) (by simpa [E'.f4] using Y h1 z x g1.ok) ?_;rintro _ h2 ⟨⟨cv,rfl⟩,g2⟩;have w2:=(w'.bt g1).bt g2;by_cases hc:cv<0
  .simp[hc,mE,wi];exact⟨j+1-(i'+1),by omega,i'+1,rfl,by omega,by omega,⟨by simp[E'.f0],by simp[E'.f1],by simp[E'.f4]⟩,by simp,by simp[kg],w2⟩
  .simp[hc];exact K _ _ i' ⟨by simp[E'.f0],by simp[E'.f1],by simp[E'.f4]⟩ JP Gd (by simp[mE]) (by simp[kg]) w2
 .simp[mE,kg,vL];exact K _ _ i' ⟨by simp[E'.f0],by simp[E'.f1],by simp[E'.f4]⟩ JP Gd (by simp[mE]) (by simp[kg]) (w'.bt ((ab.refl g.ok).tick))
def akP (P:Int×(Bool×Int)->Prop) (d n o c a:Nat) (h0:ae) (y:Value) (i0 j:Nat) (m:Nat) (e:Env) (h':ae):Prop:=
 ∃i:Nat,m=j+1-i/\i0<=i/\i<=max i0 (j+1)/\PE d n c a y e/\Env.get e 12= .int .i64 i/\Env.get e 13= .int .i64 j/\SA P d n o h0 h'
theorem adO (Y:jd y) (hn:n<1000000) (Bj:a<n) (hj:j<n) (tS:i<=n) (w:SA P d n o h0 h) {Q:aP->Env->ae->Prop} (E:PE d n c a y e) (f11:Env.get e 12= .int .i64 i) (f12:Env.get e 13= .int .i64 j)
  (K: ∀e' h' i',PE d n c a y e'->i<=i'->i'<=max i (j+1)->Env.get e' 12= .int .i64 (i':Nat)->Env.get e' 13= .int .i64 j->SA P d n o h0 h'->Q (.exit 6) e' h'):aB FF (.loop c_) e h Q:=by
 refine aB.loop (akP P d n o c a h0 y i j) ?_ (n:=j+1-i) ⟨i,rfl,by omega,by omega,E,f11,f12,w⟩;rintro m e' h' ⟨i',rfl,JP,Gd,E',mE,kg,w'⟩;obtain⟨g,xs,s,hb,hl,hP⟩:=id w';unfold c_;by_cases vL:i'<=j
 .have Ve:i'<n:=by omega
  have wi:=wrap_i64 ((i':Int)+1) (by omega) (by omega);obtain⟨x,hx⟩: ∃x,xs[a]? =some x:=⟨_,aX (by omega)⟩;obtain⟨z,hz⟩: ∃z,xs[i']? =some z:=⟨_,aX (by omega)⟩;have rx:=bI hb hx;have rz:=bI hb hz;simp[E'.f0,E'.f1,E'.f4,mE,kg,vL,Bj,Ve,rx,rz,ay,-ag];refine aQ.cut (fun h1=>ab aG h' h1) ?_ ?_
  .exact(ab.refl g.ok).tick
  intro h1 g1;refine aQ.cD (V:=fun v BW=>(∃c:Int,v= .int .i64 c)/\ab aG h1 BW) (by simpa [E'.f4] using Y h1 z x g1.ok) ?_;rintro _ h2 ⟨⟨cv,rfl⟩,g2⟩;have w2:=(w'.bt g1).bt g2;by_cases hc:cv<0
  .simp[hc,mE,wi];exact⟨j+1-(i'+1),by omega,i'+1,rfl,by omega,by omega,⟨by simp[E'.f0],by simp[E'.f1],by simp[E'.f4]⟩,by simp,by simp[kg],w2⟩
  .simp[hc];exact K _ _ i' ⟨by simp[E'.f0],by simp[E'.f1],by simp[E'.f4]⟩ JP Gd (by simp[mE]) (by simp[kg]) w2
 .simp[mE,kg,vL];exact K _ _ i' ⟨by simp[E'.f0],by simp[E'.f1],by simp[E'.f4]⟩ JP Gd (by simp[mE]) (by simp[kg]) (w'.bt ((ab.refl g.ok).tick))
def akM (P:Int×(Bool×Int)->Prop) (d n o c a:Nat) (h0:ae) (y:Value) (i j0:Nat) (m:Nat) (e:Env) (h':ae):Prop:=
 ∃j:Nat,m=j/\j<=j0/\a<=j/\PE d n c a y e/\Env.get e 12= .int .i64 i/\Env.get e 13= .int .i64 j/\SA P d n o h0 h'
theorem WH (Y:jd y) (hn:n<1000000) (hj:j<n) (U2:a<i) (XP:a<=j) (w:SA P d n o h0 h) {Q:aP->Env->ae->Prop} (E:PE d n c a y e) (f11:Env.get e 12= .int .i64 i) (f12:Env.get e 13= .int .i64 j)
  (K: ∀e' h' j',PE d n c a y e'->j'<=j->a<=j'->Env.get e' 12= .int .i64 i->Env.get e' 13= .int .i64 (j':Nat)->SA P d n o h0 h'->Q (.exit 2) e' h'):aB FF (.loop de) e h Q:=by
 refine aB.loop (akM P d n o c a h0 y i j) ?_ (n:=j) ⟨j,rfl,by omega,XP,E,f11,f12,w⟩;rintro j' e' h' ⟨_,rfl,Fy,Ea,E',mE,kg,w'⟩;obtain⟨g,xs,s,hb,hl,hP⟩:=id w';unfold de;by_cases vL:i<=j'
 .have Bj:a<n:=by omega
  have Vg:j'<n:=by omega
  obtain⟨k,hk⟩: ∃k,k=j'-1:=⟨_,rfl⟩;have wk:IntKind.i64.wrap ((j':Int)-1)=(k:Int):=by rw[wrap_i64 _ (by omega) (by omega)];omega
  obtain⟨x,hx⟩: ∃x,xs[a]? =some x:=⟨_,aX (by omega)⟩;obtain⟨z,hz⟩: ∃z,xs[j']? =some z:=⟨_,aX (by omega)⟩;have rx:=bI hb hx;have rz:=bI hb hz;simp[E'.f0,E'.f1,E'.f4,mE,kg,vL,Bj,Vg,rx,rz,ay,-ag];refine aQ.cut (fun h1=>ab aG h' h1) ?_ ?_
  .exact(ab.refl g.ok).tick
  intro h1 g1;refine aQ.cD (V:=fun v BW=>(∃c:Int,v= .int .i64 c)/\ab aG h1 BW) (by simpa [E'.f4] using Y h1 z x g1.ok) ?_;rintro _ h2 ⟨⟨cv,rfl⟩,g2⟩;have w2:=(w'.bt g1).bt g2;by_cases hc:cv<0
  .simp[hc];exact K _ _ j' ⟨by simp[E'.f0],by simp[E'.f1],by simp[E'.f4]⟩ Fy Ea (by simp[mE]) (by simp[kg]) w2
  .simp[hc,kg,wk];exact⟨k,by omega,k,rfl,by omega,by omega,⟨by simp[E'.f0],by simp[E'.f1],by simp[E'.f4]⟩,by simp[mE],by simp,w2⟩
 .simp[mE,kg,vL];exact K _ _ j' ⟨by simp[E'.f0],by simp[E'.f1],by simp[E'.f4]⟩ Fy Ea (by simp[mE]) (by simp[kg]) (w'.bt ((ab.refl g.ok).tick))
def akN (P:Int×(Bool×Int)->Prop) (d n o c a:Nat) (h0:ae) (y:Value) (i j0:Nat) (m:Nat) (e:Env) (h':ae):Prop:=
 ∃j:Nat,m=j/\j<=j0/\a<=j/\PE d n c a y e/\Env.get e 12= .int .i64 i/\Env.get e 13= .int .i64 j/\SA P d n o h0 h'
theorem WI (Y:jd y) (hn:n<1000000) (hj:j<n) (U2:a<i) (XP:a<=j) (w:SA P d n o h0 h) {Q:aP->Env->ae->Prop} (E:PE d n c a y e) (f11:Env.get e 12= .int .i64 i) (f12:Env.get e 13= .int .i64 j)
  (K: ∀e' h' j',PE d n c a y e'->j'<=j->a<=j'->Env.get e' 12= .int .i64 i->Env.get e' 13= .int .i64 (j':Nat)->SA P d n o h0 h'->Q (.exit 8) e' h'):aB FF (.loop c7) e h Q:=by
 refine aB.loop (akN P d n o c a h0 y i j) ?_ (n:=j) ⟨j,rfl,by omega,XP,E,f11,f12,w⟩;rintro j' e' h' ⟨_,rfl,Fy,Ea,E',mE,kg,w'⟩;obtain⟨g,xs,s,hb,hl,hP⟩:=id w';unfold c7;by_cases vL:i<=j'
 .have Bj:a<n:=by omega
  have Vg:j'<n:=by omega
  obtain⟨k,hk⟩: ∃k,k=j'-1:=⟨_,rfl⟩;have wk:IntKind.i64.wrap ((j':Int)-1)=(k:Int):=by rw[wrap_i64 _ (by omega) (by omega)];omega
  obtain⟨x,hx⟩: ∃x,xs[a]? =some x:=⟨_,aX (by omega)⟩;obtain⟨z,hz⟩: ∃z,xs[j']? =some z:=⟨_,aX (by omega)⟩;have rx:=bI hb hx;have rz:=bI hb hz;simp[E'.f0,E'.f1,E'.f4,mE,kg,vL,Bj,Vg,rx,rz,ay,-ag];refine aQ.cut (fun h1=>ab aG h' h1) ?_ ?_
  .exact(ab.refl g.ok).tick
  intro h1 g1;refine aQ.cD (V:=fun v BW=>(∃c:Int,v= .int .i64 c)/\ab aG h1 BW) (by simpa [E'.f4] using Y h1 z x g1.ok) ?_;rintro _ h2 ⟨⟨cv,rfl⟩,g2⟩;have w2:=(w'.bt g1).bt g2;by_cases hc:cv<0
  .simp[hc];exact K _ _ j' ⟨by simp[E'.f0],by simp[E'.f1],by simp[E'.f4]⟩ Fy Ea (by simp[mE]) (by simp[kg]) w2
  .simp[hc,kg,wk];exact⟨k,by omega,k,rfl,by omega,by omega,⟨by simp[E'.f0],by simp[E'.f1],by simp[E'.f4]⟩,by simp[mE],by simp,w2⟩
 .simp[mE,kg,vL];exact K _ _ j' ⟨by simp[E'.f0],by simp[E'.f1],by simp[E'.f4]⟩ Fy Ea (by simp[mE]) (by simp[kg]) (w'.bt ((ab.refl g.ok).tick))
def akL (P:Int×(Bool×Int)->Prop) (d n o c a b:Nat) (h0:ae) (y:Value) (m:Nat) (e:Env) (h':ae):Prop:=
 ∃i j:Nat,m=j+1-i/\a<i/\i<=b/\a<=j/\j<b/\PE d n c a y e/\Env.get e 12= .int .i64 i/\Env.get e 13= .int .i64 j/\SA P d n o h0 h'
def PtQ (P:Int×(Bool×Int)->Prop) (d n o a b:Nat) (h0:ae) (v:Value) (h':ae):Prop:=SA P d n o h0 h'/\ ∃(j:Nat) (t:Bool),v= .tuple #[.int .i64 j,.bool t]/\a<=j/\j<b
theorem R7 (Y:jd y) (iz:b<=n) (hn:n<1000000) (hap:a<=pv) (hpb:pv<b) (w:SA P d n o h0 h):
  aF FF ft [.slice (some ⟨d,0,none⟩) n c,.int .i64 a,.int .i64 b,.int .i64 pv,y] h (PtQ P d n o a b h0):=by
 obtain⟨g,xs,s,hb,hl,hP⟩:=id w;have Bj:a<n:=by omega
 have NY:pv<n:=by omega
 obtain⟨x,hx⟩: ∃x,xs[a]? =some x:=⟨_,aX (by omega)⟩;obtain⟨z,hz⟩: ∃z,xs[pv]? =some z:=⟨_,aX (by omega)⟩;have rx:=bI hb hx;have rz:=bI hb hz;have l1:a*3+3<=xs.length*3:=by omega
 have l2:pv*3+3<=xs.length*3:=by omega
 have sp:=gm xs a z (by omega);have wa:=wrap_i64 ((a:Int)+1) (by omega) (by omega);obtain⟨k,hk⟩: ∃k,k=b-1:=⟨_,rfl⟩;have wb:IntKind.i64.wrap ((b:Int)-1)=(k:Int):=by rw[wrap_i64 _ (by omega) (by omega)];omega
 refine aF.of kv ?_;unfold fh;simp[Bj,NY,rx,rz,ay,hb,l1,l2,sp,wa,wb,-ag];have w1:=SA.swap (h:=tick h) g.tick hb hl hP hx hz;refine adN (c:=c) (i:=a+1) Y hn Bj (j:=k) (by omega) (by omega) w1 ⟨by simp,by simp,by simp⟩ (by simp) (by simp) ?_;intro e1 h1 i1 E1 JP ag4 VP X7 w1;simp;refine WH Y hn (by omega) (by omega) (by omega) w1 E1 VP X7 ?_;intro e2 h2 j2 E2 Ea ag7 MI V0 w2;obtain⟨g2,qc,s2,dq,tT,IM⟩:=id w2;have NQ:j2<n:=by omega
 obtain⟨x2,Hd⟩: ∃x2,qc[a]? =some x2:=⟨_,aX (by omega)⟩;obtain⟨z2,vK⟩: ∃z2,qc[j2]? =some z2:=⟨_,aX (by omega)⟩;have WZ:=bI dq Hd;have W0:=bI dq vK;have l4:j2*3+3<=qc.length*3:=by omega
 have l5:a*3+3<=qc.length*3:=by omega
 by_cases vL:j2<i1
 .have Xj:=gm qc j2 x2 (by omega);simp[E2.f0,E2.f1,MI,V0,vL,Bj,NQ,WZ,W0,ay,dq,l4,l5,Xj,-ag];exact⟨SA.swap (h:=tick h2) g2.tick dq tT IM vK Hd,j2,true,rfl,by omega,by omega⟩
 have Vd:i1<n:=by omega
 obtain⟨y2,VC⟩: ∃y2,qc[i1]? =some y2:=⟨_,aX (by omega)⟩;have ry2:=bI dq VC;have l3:i1*3+3<=qc.length*3:=by omega
 have Xj:=gm qc i1 z2 (by omega);have wi:=wrap_i64 ((i1:Int)+1) (by omega) (by omega);obtain⟨k2,BZ⟩: ∃k2,k2=j2-1:=⟨_,rfl⟩;have wk:IntKind.i64.wrap ((j2:Int)-1)=(k2:Int):=by rw[wrap_i64 _ (by omega) (by omega)];omega
 simp[E2.f0,MI,V0,vL,Vd,NQ,ry2,W0,ay,dq,l3,l4,Xj,wi,wk,-ag];have w3:=SA.swap (h:=tick h2) g2.tick dq tT IM VC vK;refine aB.loop (akL P d n o c a b h0 y) ?_ (n:=k2+1-(i1+1)) ⟨i1+1,k2,rfl,by omega,by omega,by omega,by omega,⟨by simp[E2.f0],by simp[E2.f1],by simp[E2.f4]⟩,by simp,by simp,w3⟩;rintro m e' h' ⟨i,j,rfl,U2,hib,XP,hjb,E',kg,WJ,w'⟩;unfold eO;simp;refine adO Y hn Bj (by omega) (by omega) w' E' kg WJ ?_;intro e1 h1 i1 E1 JP ag4 VP X7 w1;simp;refine WI Y hn (by omega) (by omega) XP w1 E1 VP X7 ?_;intro e2 h2 j2 E2 Ea ag7 MI V0 w2;obtain⟨g2,qc,s2,dq,tT,IM⟩:=id w2;have NQ:j2<n:=by omega
 obtain⟨x2,Hd⟩: ∃x2,qc[a]? =some x2:=⟨_,aX (by omega)⟩;obtain⟨z2,vK⟩: ∃z2,qc[j2]? =some z2:=⟨_,aX (by omega)⟩;have WZ:=bI dq Hd;have W0:=bI dq vK;have l4:j2*3+3<=qc.length*3:=by omega
 have l5:a*3+3<=qc.length*3:=by omega
 by_cases vL:j2<i1
 .have Xj:=gm qc j2 x2 (by omega);simp[MI,V0,vL];rw[qW _ _ _ _ _ (by decide)];simp[E2.f0,E2.f1,MI,V0,vL,Bj,NQ,WZ,W0,ay,dq,l4,l5,Xj,-ag];exact⟨SA.swap (h:=tick h2) g2.tick dq tT IM vK Hd,j2,false,rfl,by omega,by omega⟩
 .have Vd:i1<n:=by omega
  obtain⟨y2,VC⟩: ∃y2,qc[i1]? =some y2:=⟨_,aX (by omega)⟩;have ry2:=bI dq VC;have l3:i1*3+3<=qc.length*3:=by omega
  have Xj:=gm qc i1 z2 (by omega);have wi:=wrap_i64 ((i1:Int)+1) (by omega) (by omega);obtain⟨k2,BZ⟩: ∃k2,k2=j2-1:=⟨_,rfl⟩;have wk:IntKind.i64.wrap ((j2:Int)-1)=(k2:Int):=by rw[wrap_i64 _ (by omega) (by omega)];omega
  simp[E2.f0,MI,V0,vL,Vd,NQ,ry2,W0,ay,dq,l3,l4,Xj,wi,wk,-ag];exact⟨k2+1-(i1+1),by omega,i1+1,k2,rfl,by omega,by omega,by omega,by omega,⟨by simp[E2.f0],by simp[E2.f1],by simp[E2.f4]⟩,by simp,by simp,SA.swap (h:=tick h2) g2.tick dq tT IM VC vK⟩
end
def Xd:ak:=(J_ (V_ [D_ (m_ 19 11),D_ (C_ 20 .add 19 1),D_ (m_ 21 2),D_ (B_ 22 .lss 20 21),D_ (m_ 23 22),(q_ 24 23 true (.mv (t_ 4)),[]),(q_ 25 23 true (.mv (t_ 0)),[]),(q_ 26 23 true (.mv (t_ 3)),[]),(q_ 27 23 true (.mv (t_ 11)),[]),(q_ 28 23 true (.bin .add [] (t_ 26) (t_ 27)),[]),(q_ 29 23 true (.cR none 3 (t_ 25) (t_ 28)),[]),(q_ 30 23 true (.load (some 3) (t_ 29)),[]),(q_ 31 23 true (.mv (t_ 0)),[]),(q_ 32 23 true (.mv (t_ 3)),[]),(q_ 33 23 true (.mv (t_ 11)),[]),(q_ 34 23 true (.bin .add [] (t_ 32) (t_ 33)),[]),(q_ 35 23 true (.bin .add [] (t_ 34) (i_ 1)),[]),(q_ 36 23 true (.cR none 3 (t_ 31) (t_ 35)),[]),(q_ 37 23 true (.load (some 3) (t_ 36)),[]),(q_ 38 23 true (.call (t_ 24) [t_ 30,t_ 37]),[]),(q_ 39 23 true (.bin .lss [] (t_ 38) (i_ 0)),[]),(o_ 40 (.pick (t_ 23) (t_ 39) (b_ false)),[])]) (I_ 40 (O_ [m_ 41 11,C_ 42 .add 41 1,m_ 11 42]) .skip))
def Jy:ak:=(J_ (J_ (V_ [D_ (m_ 43 4),D_ (m_ 44 0),D_ (m_ 45 3),D_ (m_ 46 10),D_ (B_ 47 .add 45 46),D_ (a_ 48 3 44 47),D_ (L_ 49 3 48),D_ (m_ 50 0),D_ (m_ 51 3),D_ (m_ 52 11),D_ (B_ 53 .add 51 52),D_ (a_ 54 3 50 53),D_ (L_ 55 3 54),(o_ 56 (.call (t_ 43) [t_ 49,t_ 55]),[]),D_ (C_ 57 .lss 56 0),(o_ 58 (.un .not (t_ 57)),[])]) (I_ 58 .ret .skip)) (J_ (V_ [D_ (m_ 59 0),D_ (m_ 60 3),D_ (m_ 61 10),D_ (B_ 62 .add 60 61),D_ (m_ 63 0),D_ (m_ 64 3),D_ (m_ 65 11),D_ (B_ 66 .add 64 65),D_ (m_ 67 0),D_ (m_ 68 3),D_ (m_ 69 11),D_ (B_ 70 .add 68 69),D_ (a_ 71 3 67 70),D_ (L_ 72 3 71),D_ (m_ 73 0),D_ (m_ 74 3),D_ (m_ 75 10),D_ (B_ 76 .add 74 75),D_ (a_ 77 3 73 76),D_ (L_ 78 3 77),D_ (a_ 79 3 59 62),D_ (s_ 3 79 72),D_ (a_ 80 3 63 66),D_ (s_ 3 80 78)]) (O_ [m_ 81 11,m_ 10 81])))
theorem Xe:dp= .block 1 (G_ [m_ 13 10,o_ 14 (.bin .mul [] (i_ 2) (t_ 13)),C_ 15 .add 14 1,m_ 11 15] (J_ (G_ [m_ 16 11,m_ 17 2,B_ 18 .geq 16 17] (I_ 18 (.exit 0) .skip)) (J_ Xd Jy))):=rfl
section
variable {P:Int×(Bool×Int)->Prop} {d n o c:Nat} {h0:ae} {y:Value}
def SdI (P:Int×(Bool×Int)->Prop) (d n o c:Nat) (h0:ae) (y:Value) (hi first:Nat) (m:Nat) (e:Env) (h':ae):Prop:=
 ∃r:Nat,m=hi+1-r/\Env.get e 0= .slice (some ⟨d,0,none⟩) n c/\Env.get e 2= .int .i64 hi/\Env.get e 3= .int .i64 first/\Env.get e 4=y/\Env.get e 10= .int .i64 r/\r<1000000/\SA P d n o h0 h'
theorem Z2 (Y:jd y) {hi first r cc:Nat} (hf:first+hi<=n) (hn:n<1000000) (hrc:r<cc) (U6:cc<hi) (w:SA P d n o h0 h) {Q:aP->Env->ae->Prop} (f0:Env.get e 0= .slice (some ⟨d,0,none⟩) n c) (f2:Env.get e 2= .int .i64 hi) (f3:Env.get e 3= .int .i64 first) (f4:Env.get e 4=y) (f10:Env.get e 10= .int .i64 r) (f11:Env.get e 11= .int .i64 cc)
  (K1: ∀e' h',SA P d n o h0 h'->Q .ret e' h') (K2: ∀e' h',SA P d n o h0 h'->Env.get e' 0= .slice (some ⟨d,0,none⟩) n c->Env.get e' 2= .int .i64 hi->Env.get e' 3= .int .i64 first->Env.get e' 4=y->Env.get e' 10= .int .i64 cc->Q .normal e' h'):aB FF Jy e h Q:=by
 obtain⟨g,xs,s,hb,hl,hP⟩:=id w;obtain⟨i,JP⟩: ∃i,i=first+r:=⟨_,rfl⟩
 obtain⟨j,Fy⟩: ∃j,j=first+cc:=⟨_,rfl⟩
 have wi:IntKind.i64.wrap ((first:Int)+(r:Int))=(i:Int):=by rw[wrap_i64 _ (by omega) (by omega)];omega
 have wj:IntKind.i64.wrap ((first:Int)+(cc:Int))=(j:Int):=by rw[wrap_i64 _ (by omega) (by omega)];omega
 have tS:i<n:=by omega
 have Eb:j<n:=by omega
 obtain⟨x,hx⟩: ∃x,xs[i]? =some x:=⟨_,aX (by omega)⟩;obtain⟨z,hz⟩: ∃z,xs[j]? =some z:=⟨_,aX (by omega)⟩;have rx:=bI hb hx;have rz:=bI hb hz;unfold Jy;simp[f0,f2,f3,f4,f10,f11,wi,wj,tS,Eb,rx,rz,ay,-ag];refine aQ.cut (fun h1=>ab aG h h1) ?_ ?_
 .exact(ab.refl g.ok).tick
 intro h1 g1;refine aQ.cD (V:=fun v BW=>(∃c:Int,v= .int .i64 c)/\ab aG h1 BW) (by simpa [f4] using Y h1 x z g1.ok) ?_;rintro _ h2 ⟨⟨cv,rfl⟩,g2⟩;have w2:=(w.bt g1).bt g2;by_cases hc:cv<0
 .obtain⟨gg,qc,s2,dq,tT,IM⟩:=id w2;obtain⟨x2,Hd⟩: ∃x2,qc[i]? =some x2:=⟨_,aX (by omega)⟩;obtain⟨z2,vK⟩: ∃z2,qc[j]? =some z2:=⟨_,aX (by omega)⟩;have WZ:=bI dq Hd;have W0:=bI dq vK;have l1:i*3+3<=qc.length*3:=by omega
  have l2:j*3+3<=qc.length*3:=by omega
  have sp:=gm qc i z2 (by omega);simp[hc,f0,f3,f10,f11,wi,wj,tS,Eb,WZ,W0,ay,dq,l1,l2,sp,-ag];exact K2 _ _ (SA.swap (h:=tick h2) gg.tick dq tT IM Hd vK) (by simp[f0]) (by simp[f2]) (by simp[f3]) (by simp[f4]) (by simp)
 .simp[hc];exact K1 _ _ w2
theorem HG (Y:jd y) {lo hi first:Nat} (hf:first+hi<=n) (hn:n<1000000) (G7:lo<1000000) (w:SA P d n o h0 h):
  aF FF fD [.slice (some ⟨d,0,none⟩) n c,.int .i64 lo,.int .i64 hi,.int .i64 first,y] h (fun _ h'=>SA P d n o h0 h'):=by
 refine aF.of kW ?_;unfold fz;simp;refine aB.loop (SdI P d n o c h0 y hi first) ?_ (n:=hi+1-lo) ⟨lo,rfl,by simp,by simp,by simp,by simp,by simp,G7,w⟩;rintro m e h' ⟨r,rfl,q0,q2,q3,q4,Cm,hr,w'⟩;obtain⟨ch,hch⟩: ∃ch,ch=2*r+1:=⟨_,rfl⟩;have w1:IntKind.i64.wrap (2*(r:Int))=2*(r:Int):=wrap_i64 _ (by omega) (by omega);have w2:IntKind.i64.wrap (2*(r:Int)+1)=(ch:Int):=by rw[wrap_i64 _ (by omega) (by omega)];omega
 by_cases agS:hi<=ch
 .unfold dp;simp[q2,Cm,w1,w2,agS];rw[qW _ _ _ _ _ (by decide)];simp;exact w'
 obtain⟨g,xs,s,hb,hl,hP⟩:=id w';have vI:ch<hi:=by omega
 rw[Xe];simp[q2,Cm,w1,w2,agS];obtain⟨ch2,hch3⟩: ∃ch2,ch2=ch+1:=⟨_,rfl⟩;have w3:IntKind.i64.wrap ((ch:Int)+1)=(ch2:Int):=by rw[wrap_i64 _ (by omega) (by omega)];omega
 have fin: ∀(cc:Nat) (e2:Env) (h2:ae),r<cc->cc<hi->SA P d n o h0 h2->Env.get e2 0= .slice (some ⟨d,0,none⟩) n c->Env.get e2 2= .int .i64 hi->Env.get e2 3= .int .i64 first->Env.get e2 4=y->Env.get e2 10= .int .i64 r->Env.get e2 11= .int .i64 cc->
   aB FF Jy e2 h2 (FD 1 (Dq (fun e h=> ∃m,m<hi+1-r/\SdI P d n o c h0 y hi first m e h) (FD 0 (x6 [] fun _ h'=>SA P d n o h0 h')))):=by
  intro cc e2 h2 a1 a2 w2 b0 b2 b3 b4 b10 b11;refine Z2 Y hf hn a1 a2 w2 b0 b2 b3 b4 b10 b11 (fun e' h' w'=>by simpa using w') (fun e' h' w' c0 c2 c3 c4 c10=> ?_);simp;exact⟨hi+1-cc,by omega,cc,rfl,c0,c2,c3,c4,c10,by omega,w'⟩
 unfold Xd;by_cases h2:ch2<hi
 .obtain⟨i,JP⟩: ∃i,i=first+ch:=⟨_,rfl⟩
  obtain⟨j,Fy⟩: ∃j,j=i+1:=⟨_,rfl⟩;have wi:IntKind.i64.wrap ((first:Int)+(ch:Int))=(i:Int):=by rw[wrap_i64 _ (by omega) (by omega)];omega
  have wj:IntKind.i64.wrap ((i:Int)+1)=(j:Int):=by rw[wrap_i64 _ (by omega) (by omega)];omega
  have tS:i<n:=by omega
  have Eb:j<n:=by omega
  obtain⟨x,hx⟩: ∃x,xs[i]? =some x:=⟨_,aX (by omega)⟩;obtain⟨z,hz⟩: ∃z,xs[j]? =some z:=⟨_,aX (by omega)⟩;have rx:=bI hb hx;have rz:=bI hb hz;simp[q0,q2,q3,q4,w3,h2,wi,wj,tS,Eb,rx,rz,ay,-ag];refine aQ.cut (fun h1=>ab aG h' h1) ?_ ?_
  .exact(ab.refl g.ok).tick
  intro h1 g1;refine aQ.cD (V:=fun v BW=>(∃c:Int,v= .int .i64 c)/\ab aG h1 BW) (by simpa [q4] using Y h1 x z g1.ok) ?_;rintro _ h3 ⟨⟨cv,rfl⟩,g2⟩;have w4:=(w'.bt g1).bt g2;by_cases hc:cv<0
  .simp[hc,w3];exact fin ch2 _ _ (by omega) h2 w4 (by simp[q0]) (by simp[q2]) (by simp[q3]) (by simp[q4]) (by simp[Cm]) (by simp)
  .simp[hc];exact fin ch _ _ (by omega) vI w4 (by simp[q0]) (by simp[q2]) (by simp[q3]) (by simp[q4]) (by simp[Cm]) (by simp)
 .simp[q2,w3,h2];exact fin ch _ _ (by omega) vI (w'.bt ((ab.refl g.ok).tick)) (by simp[q0]) (by simp[q2]) (by simp[q3]) (by simp[q4]) (by simp[Cm]) (by simp)
def akr (P:Int×(Bool×Int)->Prop) (d n o c:Nat) (h0:ae) (y:Value) (a k:Nat) (m:Nat) (e:Env) (h':ae):Prop:=
 ∃i:Int,m=(i+1).toNat/\ -1<=i/\i<1000000/\Env.get e 0= .slice (some ⟨d,0,none⟩) n c/\Env.get e 3=y/\Env.get e 8= .int .i64 a/\Env.get e 9= .int .i64 0/\Env.get e 10= .int .i64 k/\Env.get e 11= .int .i64 i/\SA P d n o h0 h'
def akq (P:Int×(Bool×Int)->Prop) (d n o c:Nat) (h0:ae) (y:Value) (a k:Nat) (m:Nat) (e:Env) (h':ae):Prop:=
 ∃i:Int,m=(i+1).toNat/\ -1<=i/\i<k/\Env.get e 0= .slice (some ⟨d,0,none⟩) n c/\Env.get e 3=y/\Env.get e 8= .int .i64 a/\Env.get e 9= .int .i64 0/\Env.get e 12= .int .i64 i/\SA P d n o h0 h'
theorem Q8 (Y:jd y) (zX:a<b) (iz:b<=n) (hn:n<1000000) (w:SA P d n o h0 h):
  aF FF fC [.slice (some ⟨d,0,none⟩) n c,.int .i64 a,.int .i64 b,y] h (fun _ h'=>SA P d n o h0 h'):=by
 obtain⟨k,hk⟩: ∃k,k=b-a:=⟨_,rfl⟩;have w1:IntKind.i64.wrap ((b:Int)-(a:Int))=(k:Int):=by rw[wrap_i64 _ (by omega) (by omega)];omega
 obtain⟨k1,hk1⟩: ∃k1,k1=k-1:=⟨_,rfl⟩;have w2:IntKind.i64.wrap ((k:Int)-1)=(k1:Int):=by rw[wrap_i64 _ (by omega) (by omega)];omega
 have w3:IntKind.i64.wrap ((k1:Int)/2)=(k1:Int)/2:=wrap_i64 _ (by omega) (by omega);refine aF.of kV ?_;unfold fy;simp[w1,w2,w3];refine aB.loop (akr P d n o c h0 y a k) ?_ (n:=k1/2+1) ⟨((k1/2:Nat):Int),by omega,by omega,by omega,by simp,by simp,by simp,by simp,by simp,by simp,w⟩;rintro m e' h' ⟨i,rfl,JP,Gd,q0,q3,q8,q9,Cm,mE,w'⟩;unfold eZ;by_cases hi:0<=i
 .obtain⟨i,rfl⟩: ∃i':Nat,i=i':=⟨i.toNat,by omega⟩;have wi:=wrap_i64 ((i:Int)-1) (by omega) (by omega);simp[q0,q3,q8,Cm,mE,hi];refine aE.call (V:=fun _ h'=>SA P d n o h0 h') (by simpa using HG (c:=c) Y (lo:=i) (hi:=k) (first:=a) (by omega) hn (by omega) w') ?_;rintro v h2 w2;simp[mE,wi];exact⟨((i:Int)-1+1).toNat,by omega,(i:Int)-1,rfl,by omega,by omega,by simp[q0],by simp[q3],by simp[q8],by simp[q9],by simp[Cm],by simp,w2⟩
 .have C2:i= -1:=by omega
  subst C2;simp[Cm,mE,w2];refine aB.loop (akq P d n o c h0 y a k) ?_ (n:=k1+1) ⟨(k1:Int),by omega,by omega,by omega,by simp[q0],by simp[q3],by simp[q8],by simp[q9],by simp,w'⟩;rintro m e2 h2 ⟨i,rfl,JP,Gd,q0,q3,q8,q9,kg,w2⟩;unfold eY;by_cases hi:0<=i
  .obtain⟨i,rfl⟩: ∃i':Nat,i=i':=⟨i.toNat,by omega⟩;have wi:=wrap_i64 ((i:Int)-1) (by omega) (by omega);obtain⟨j,hj⟩: ∃j,j=a+i:=⟨_,rfl⟩;have wj:IntKind.i64.wrap ((a:Int)+(i:Int))=(j:Int):=by rw[wrap_i64 _ (by omega) (by omega)];omega
   have Bj:a<n:=by omega
   have Eb:j<n:=by omega
   obtain⟨g,xs,s,hb,hl,hP⟩:=id w2;obtain⟨x,hx⟩: ∃x,xs[a]? =some x:=⟨_,aX (by omega)⟩;obtain⟨z,hz⟩: ∃z,xs[j]? =some z:=⟨_,aX (by omega)⟩;have rx:=bI hb hx;have rz:=bI hb hz;have l1:a*3+3<=xs.length*3:=by omega
   have l2:j*3+3<=xs.length*3:=by omega
   have sp:=gm xs a z (by omega);simp[q0,q3,q8,q9,kg,wj,Bj,Eb,rx,rz,ay,hb,l1,l2,sp,-ag];have w3:=SA.swap (h:=tick h2) g.tick hb hl hP hx hz;refine aE.call (V:=fun _ h'=>SA P d n o h0 h') (by simpa using HG (c:=c) Y (lo:=0) (hi:=i) (first:=a) (by omega) hn (by omega) w3) ?_;rintro v h4 w4;simp[kg,wi];exact⟨((i:Int)-1+1).toNat,by omega,(i:Int)-1,rfl,by omega,by omega,by simp[q0],by simp[q3],by simp[q8],by simp[q9],by simp,w4⟩
  .have C2:i= -1:=by omega
   subst C2;simp[kg];exact w2
end
section
variable {P:Int×(Bool×Int)->Prop} {d n o c:Nat} {h0:ae} {y:Value}
structure SW (P:Int×(Bool×Int)->Prop) (d n o:Nat) (h0:ae) (S:Nat) (h:ae):Prop where
 sa:SA P d n o h0 h
 hS: ∃(k:Int) (s:Nat),h.tr.get S=some (.aA [.int .i64 k] false 0 s)
 n0:h0.next<=S
 ne:S≠d
theorem SW.bt {h h':ae} {S:Nat} (w:SW P d n o h0 S h) (g:ab aG h h'):SW P d n o h0 S h':=by obtain⟨k,s,hS⟩:=w.hS;exact⟨w.sa.bt g,⟨k,s,g.get w.sa.1.ok hS (fun h=>h)⟩,w.n0,w.ne⟩
def O2Q (P:Int×(Bool×Int)->Prop) (d n o:Nat) (h0:ae) (S a b:Nat) (v:Value) (h':ae):Prop:=SW P d n o h0 S h'/\((v= .tuple #[.int .i64 a,.int .i64 b])\/v= .tuple #[.int .i64 b,.int .i64 a])
theorem jH (Y:jd y) (ha:a<n) (hb:b<n) (w:SW P d n o h0 S h):
  aF FF gk [.slice (some ⟨d,0,none⟩) n c,.int .i64 a,.int .i64 b,.pointer (some ⟨S,0,none⟩),y] h (O2Q P d n o h0 S a b):=by
 obtain⟨g,xs,s,Fx,hl,hP⟩:=id w.sa;obtain⟨x,hx⟩: ∃x,xs[b]? =some x:=⟨_,aX (by omega)⟩;obtain⟨z,hz⟩: ∃z,xs[a]? =some z:=⟨_,aX (by omega)⟩;have rx:=bI Fx hx;have rz:=bI Fx hz;refine aF.of mh ?_;unfold fV;simp[ha,hb,rx,rz,ay,-ag];refine aQ.cut (fun h1=>ab aG h h1) ?_ ?_
 .exact(ab.refl g.ok).tick
 intro h1 g1;refine aQ.cD (V:=fun v BW=>(∃c:Int,v= .int .i64 c)/\ab aG h1 BW) (by simpa using Y h1 x z g1.ok) ?_;rintro _ h2 ⟨⟨cv,rfl⟩,g2⟩;have w2:=(w.bt g1).bt g2;by_cases hc:cv<0
 .obtain⟨k,sk,hS⟩:=w2.hS;simp[hc,hS];have gw:=aM w2.sa.1.ok hS (off:=0) (vs:=[.int .i64 (IntKind.i64.wrap (k+1))]);obtain⟨gg,qc,s2,dq,tT,IM⟩:=id w2.sa;refine⟨⟨⟨gg.trans' gw (fun _ _ h=>h) (fun x hx e=>by have:=w2.n0;omega),qc,s2,gw.get gg.ok dq (fun e=>w2.ne e.symm),tT,IM⟩,⟨_,_,by rw[aD];rfl⟩,w2.n0,w2.ne⟩,.inr rfl⟩
 .simp[hc];exact⟨w2,.inl rfl⟩
def afg (P:Int×(Bool×Int)->Prop) (d n o:Nat) (h0:ae) (S a b k:Nat) (v:Value) (h':ae):Prop:=SW P d n o h0 S h'/\ ∃r:Nat,v= .int .i64 r/\(r=a\/r=b\/r=k)
theorem Lt (Y:jd y) (ha:a<n) (hb:b<n) (hk:k<n) (w:SW P d n o h0 S h):
  aF FF gh [.slice (some ⟨d,0,none⟩) n c,.int .i64 a,.int .i64 b,.int .i64 k,.pointer (some ⟨S,0,none⟩),y] h (afg P d n o h0 S a b k):=by
 refine aF.of mg ?_;unfold fU;simp;have asy: ∀(a b:Nat) (e:Env) (h:ae),a<n->b<n->SW P d n o h0 S h->True:=fun _ _ _ _ _ _ _=>trivial;refine aE.call (V:=O2Q P d n o h0 S a b) (by simpa using jH Y ha hb w) ?_;rintro _ h1 ⟨w1,rfl|rfl⟩
 .simp;refine aE.call (V:=O2Q P d n o h0 S b k) (by simpa using jH Y hb hk w1) ?_;rintro _ h2 ⟨w2,rfl|rfl⟩
  .simp;refine aE.call (V:=O2Q P d n o h0 S a b) (by simpa using jH Y ha hb w2) ?_;rintro _ h3 ⟨w3,rfl|rfl⟩
   .simp;exact⟨w3,b,rfl,by simp⟩
   .simp;exact⟨w3,a,rfl,by simp⟩
  .simp;refine aE.call (V:=O2Q P d n o h0 S a k) (by simpa using jH Y ha hk w2) ?_;rintro _ h3 ⟨w3,rfl|rfl⟩
   .simp;exact⟨w3,k,rfl,by simp⟩
   .simp;exact⟨w3,a,rfl,by simp⟩
 .simp;refine aE.call (V:=O2Q P d n o h0 S a k) (by simpa using jH Y ha hk w1) ?_;rintro _ h2 ⟨w2,rfl|rfl⟩
  .simp;refine aE.call (V:=O2Q P d n o h0 S b a) (by simpa using jH Y hb ha w2) ?_;rintro _ h3 ⟨w3,rfl|rfl⟩
   .simp;exact⟨w3,a,rfl,by simp⟩
   .simp;exact⟨w3,b,rfl,by simp⟩
  .simp;refine aE.call (V:=O2Q P d n o h0 S b k) (by simpa using jH Y hb hk w2) ?_;rintro _ h3 ⟨w3,rfl|rfl⟩
   .simp;exact⟨w3,k,rfl,by simp⟩
   .simp;exact⟨w3,b,rfl,by simp⟩
def CpQ (P:Int×(Bool×Int)->Prop) (d n o a b:Nat) (h0:ae) (v:Value) (h':ae):Prop:=SA P d n o h0 h'/\ ∃(j:Nat) (t:Int),v= .tuple #[.int .i64 j,.int .i64 t]/\a<=j/\j<b
theorem R_ (zX:a+8<=b) (iz:b<=n) (hn:n<50): ∃l q q2 q3 i j k:Nat,IntKind.i64.wrap ((b:Int)-(a:Int))=(l:Int)/\IntKind.i64.wrap ((l:Int)/4)=(q:Int)/\IntKind.i64.wrap (q:Int)=(q:Int)/\IntKind.i64.wrap ((q:Int)*2)=(q2:Int)/\IntKind.i64.wrap ((q:Int)*3)=(q3:Int)/\
  IntKind.i64.wrap ((a:Int)+(q:Int))=(i:Int)/\IntKind.i64.wrap ((a:Int)+(q2:Int))=(j:Int)/\IntKind.i64.wrap ((a:Int)+(q3:Int))=(k:Int)/\(8:Int)<=l/\ ¬(50:Int)<=l/\(a<=i/\i<b)/\(a<=j/\j<b)/\(a<=k/\k<b):=by
 obtain⟨l,hl⟩: ∃l,l=b-a:=⟨_,rfl⟩;have w1:IntKind.i64.wrap ((b:Int)-(a:Int))=(l:Int):=by rw[wrap_i64 _ (by omega) (by omega)];omega
 obtain⟨q,hq⟩: ∃q,q=l/4:=⟨_,rfl⟩;have w2:IntKind.i64.wrap ((l:Int)/4)=(q:Int):=by rw[wrap_i64 _ (by omega) (by omega)];omega
 have w3:IntKind.i64.wrap (q:Int)=(q:Int):=wrap_i64 _ (by omega) (by omega);obtain⟨q2,Y9⟩: ∃q2,q2=q*2:=⟨_,rfl⟩;obtain⟨q3,hq3⟩: ∃q3,q3=q*3:=⟨_,rfl⟩;have w4:IntKind.i64.wrap ((q:Int)*2)=(q2:Int):=by rw[wrap_i64 _ (by omega) (by omega)];omega
 have w5:IntKind.i64.wrap ((q:Int)*3)=(q3:Int):=by rw[wrap_i64 _ (by omega) (by omega)];omega
 obtain⟨i,hi⟩: ∃i,i=a+q:=⟨_,rfl⟩;obtain⟨j,hj⟩: ∃j,j=a+q2:=⟨_,rfl⟩;obtain⟨k,hk⟩: ∃k,k=a+q3:=⟨_,rfl⟩;have w6:IntKind.i64.wrap ((a:Int)+(q:Int))=(i:Int):=by rw[wrap_i64 _ (by omega) (by omega)];omega
 have w7:IntKind.i64.wrap ((a:Int)+(q2:Int))=(j:Int):=by rw[wrap_i64 _ (by omega) (by omega)];omega
 have w8:IntKind.i64.wrap ((a:Int)+(q3:Int))=(k:Int):=by rw[wrap_i64 _ (by omega) (by omega)];omega
 have h8:(8:Int)<=l:=by omega
 have h50: ¬(50:Int)<=l:=by omega
 exact⟨l,q,q2,q3,i,j,k,w1,w2,w3,w4,w5,w6,w7,w8,h8,h50,⟨by omega,by omega⟩,⟨by omega,by omega⟩,⟨by omega,by omega⟩⟩
theorem OB (Y:jd y) (hdh:h0.next<=h.next) (zX:a+8<=b) (iz:b<=n) (hn:n<50) (w:SA P d n o h0 h):
  aF FF eN [.slice (some ⟨d,0,none⟩) n c,.int .i64 a,.int .i64 b,y] h (CpQ P d n o a b h0):=by
 obtain⟨l,q,q2,q3,i,j,k,w1,w2,w3,w4,w5,w6,w7,w8,h8,h50,⟨i1,i2⟩,⟨j1,j2⟩,k1,k2⟩:=R_ zX iz hn;obtain⟨g,xs,s,Fx,uv,hP⟩:=id w;have ld:=(g.ok.bA Fx).lt;refine aF.of jP ?_;unfold eI;simp[w1,w2,w3,w4,w5,w6,w7,w8,h8,h50];refine aE.cut (fun h1=>SW P d n o h0 h.next h1) ?_ ?_
 .have gn:ab aG h (aL h [.int .i64 0] 0):=(ab.refl g.ok).new _ _;exact⟨w.bt gn,⟨0,0,by simp⟩,hdh,by omega⟩
 intro h1 w1;refine aE.call (V:=afg P d n o h0 h.next i j k) (by simpa using Lt (c:=c) Y (IF i2 iz) (IF j2 iz) (IF k2 iz) w1) ?_;rintro _ h2 ⟨w2,r,rfl,hr⟩;have o7:a<=r:=by rcases hr with rfl|rfl|rfl<;>assumption
 have Ef:r<b:=by rcases hr with rfl|rfl|rfl<;>assumption
 clear w3 w4 w5 w6 w7 w8 h8 h50;obtain⟨sw,ss,hS⟩:=w2.hS;by_cases e0:sw=0
 .subst e0;simp[hS];exact⟨w2.sa,r,1,rfl,o7,Ef⟩
 .have e0':(sw==0)=false:=by simpa using e0
  by_cases e12:sw=12
  .subst e12;simp[hS];exact⟨w2.sa,r,2,rfl,o7,Ef⟩
  .have alO:(sw==12)=false:=by simpa using e12
   simp[hS,e0',alO,e0,e12];exact⟨w2.sa,r,(0:Int),rfl,o7,Ef⟩
def PiI (P:Int×(Bool×Int)->Prop) (d n o c:Nat) (h0:ae) (y:Value) (a b:Nat) (m:Nat) (e:Env) (h':ae):Prop:=
 ∃i:Nat,m=b-i/\a<i/\i<=b/\Env.get e 0= .slice (some ⟨d,0,none⟩) n c/\Env.get e 1= .int .i64 a/\Env.get e 2= .int .i64 b/\Env.get e 3=y/\Env.get e 9= .int .i64 i/\SA P d n o h0 h'
def afk (P:Int×(Bool×Int)->Prop) (d n o:Nat) (h0:ae) (v:Value) (h':ae):Prop:=SA P d n o h0 h'/\ ∃t:Bool,v= .bool t
theorem Ji (Y:jd y) (zX:a<b) (iz:b<=n) (hn:n<50) (w:SA P d n o h0 h):
  aF FF du [.slice (some ⟨d,0,none⟩) n c,.int .i64 a,.int .i64 b,y] h (afk P d n o h0):=by
 have w0:=wrap_i64 ((a:Int)+1) (by omega) (by omega);have w1:=wrap_i64 ((b:Int)-(a:Int)) (by omega) (by omega);refine aF.of gq ?_;unfold dt;simp[w0];rw[nJ];unfold dj;simp;refine aB.loop (PiI P d n o c h0 y a b) ?_ (n:=b-(a+1)) ⟨a+1,rfl,by omega,by omega,by simp,by simp,by simp,by simp,by simp,w⟩;rintro m e' h' ⟨i,rfl,U2,hib,q0,q1,q2,q3,q9,w'⟩;obtain⟨g,xs,s,hb,hl,hP⟩:=id w';unfold di;have ef:(b:Int)-(a:Int)<50:=by omega
 by_cases hi:i<b
 .obtain⟨k,hk⟩: ∃k,k=i-1:=⟨_,rfl⟩;have wk:IntKind.i64.wrap ((i:Int)-1)=(k:Int):=by rw[wrap_i64 _ (by omega) (by omega)];omega
  have wi:=wrap_i64 ((i:Int)+1) (by omega) (by omega);have tS:i<n:=by omega
  have Ec:k<n:=by omega
  obtain⟨x,hx⟩: ∃x,xs[i]? =some x:=⟨_,aX (by omega)⟩;obtain⟨z,hz⟩: ∃z,xs[k]? =some z:=⟨_,aX (by omega)⟩;have rx:=bI hb hx;have rz:=bI hb hz;simp[q0,q2,q3,q9,hi,tS,Ec,wk,rx,rz,ay,-ag];refine aQ.cut (fun h1=>ab aG h' h1) ?_ ?_
  .exact(ab.refl g.ok).tick
  intro h1 g1;refine aQ.cD (V:=fun v BW=>(∃c:Int,v= .int .i64 c)/\ab aG h1 BW) (by simpa [q3] using Y h1 x z g1.ok) ?_;rintro _ h2 ⟨⟨cv,rfl⟩,g2⟩;have w2:=(w'.bt g1).bt g2;by_cases hc:cv<0
  .have cJ:((i:Int)==(b:Int))=false:=by simp;omega
   simp[hc,q1,q2,q9,cJ,w1,ef];exact⟨w2,_,rfl⟩
  .simp[hc,q9,wi];exact⟨b-(i+1),by omega,i+1,rfl,by omega,by omega,by simp[q0],by simp[q1],by simp[q2],by simp[q3],by simp,w2⟩
 .have hib:i=b:=by omega
  subst hib;simp[q2,q9];exact⟨w'.bt ((ab.refl g.ok).tick),_,rfl⟩
end
def I7:ByteArray:=⟨⟨[0,1,2,2,3,3,3,3,4,4,4,4,4,4,4,4,5,5,5,5,5,5,5,5,5,5,5,5,5,5,5,5,6,6,6,6,6,6,6,6,6,6,6,6,6,6,6,6,6,6,6,6,6,6,6,6,6,6,6,6,6,6,6,6,7,7,7,7,7,7,7,7,7,7,7,7,7,7,7,7,7,7,7,7,7,7,7,7,7,7,7,7,7,7,7,7,7,7,7,7,7,7,7,7,7,7,7,7,7,7,7,7,7,7,7,7,7,7,7,7,7,7,7,7,7,7,7,7,8,8,8,8,8,8,8,8,8,8,8,8,8,8,8,8,8,8,8,8,8,8,8,8,8,8,8,8,8,8,8,8,8,8,8,8,8,8,8,8,8,8,8,8,8,8,8,8,8,8,8,8,8,8,8,8,8,8,8,8,8,8,8,8,8,8,8,8,8,8,8,8,8,8,8,8,8,8,8,8,8,8,8,8,8,8,8,8,8,8,8,8,8,8,8,8,8,8,8,8,8,8,8,8,8,8,8,8,8,8,8,8,8,8,8,8,8,8,8,8,8,8,8,8,8,8,8,8]⟩⟩
def lenOf (n:Nat):Nat:=if n=0 then 0 else if n<2 then 1 else if n<4 then 2 else if n<8 then 3 else if n<16 then 4 else if n<32 then 5 else 6
def aa3 (n:Nat):Bool:=match I7[n]? with
 |some u=>u.toNat==lenOf n
 |none=>false
theorem Od:(List.range 64).all aa3=true:=by kernel_rfl
theorem RA (h:n<64): ∃u,I7[n]? =some u/\u.toNat=lenOf n:=by
 have:=List.all_eq_true.1 Od n (NB.2 h);unfold aa3 at this;split at this
 .rename_i u hu;exact⟨u,hu,by simpa using this⟩
 .cases this
def VU (t:ByteArray):ak:=(G_ [k_ 2 0] (J_ (G_ [m_ 3 0,o_ 4 (.bin .geq [] (t_ 3) (.const (.int .u64 4294967296)))] (I_ 4 (G_ [m_ 5 0,o_ 6 (.bin .shr [] (t_ 5) (.const (.int .u64 32))),m_ 0 6] (O_ [k_ 2 32])) .skip)) (J_ (G_ [m_ 7 0,o_ 8 (.bin .geq [] (t_ 7) (.const (.int .u64 65536)))] (I_ 8 (G_ [m_ 9 0,o_ 10 (.bin .shr [] (t_ 9) (.const (.int .u64 16))),m_ 0 10] (O_ [m_ 11 2,C_ 12 .add 11 16,m_ 2 12])) .skip)) (J_ (G_ [m_ 13 0,o_ 14 (.bin .geq [] (t_ 13) (.const (.int .u64 256)))] (I_ 14 (G_ [m_ 15 0,o_ 16 (.bin .shr [] (t_ 15) (.const (.int .u64 8))),m_ 0 16] (O_ [m_ 17 2,C_ 18 .add 17 8,m_ 2 18])) .skip)) (G_ [m_ 19 2,m_ 20 0,o_ 21 (.conv .u8 (t_ 20)),o_ 22 (.index none (.const (.string t)) (t_ 21)),o_ 23 (.conv .i64 (t_ 22)),B_ 24 .add 19 23,m_ 2 24] .ret)))))
theorem Yr:FF mr=some ⟨[.tmp 2],VU I7,.no⟩:=zL
theorem wrap_u8 (n:Int) (h:0<=n) (h':n<256):IntKind.u8.wrap n=n:=by simp only[IntKind.wrap,IntKind.signed,IntKind.bits];simp;omega
theorem Ab (n:Nat):lenOf n<=6:=by
 unfold lenOf
 repeat (split;omega)
 omega
theorem Oc (h:ae) (n:Nat) (hn:n<64):aF FF mr [.int .u64 (n:Nat)] h (fun v h'=>v= .int .i64 (lenOf n)/\h'=h):=by
 obtain⟨u,hu,hu2⟩:=RA hn;have hl:=Ab n;have w1:=wrap_u8 (n:Int) (by omega) (by omega);have w2:=wrap_i64 (lenOf n:Int) (by omega) (by omega);have c1: ¬(4294967296:Int)<=n:=by omega
 have c2: ¬(65536:Int)<=n:=by omega
 have c3: ¬(256:Int)<=n:=by omega
 refine aF.of Yr ?_;generalize I7=t at hu;unfold VU;simp[c1,c2,c3,w1,w2,hu,hu2]
theorem Es (h:ae) (n:Nat) (hn:n<64):aF FF vv [.int .u64 (n:Nat)] h (fun v h'=>v= .int .i64 (lenOf n)/\h'=h):=by refine aF.of CE ?_;unfold vp;simp;rw[xE (t:=false) rfl];simp;refine aE.call (V:=fun v h'=>v= .int .i64 (lenOf n)/\h'=h) (by simpa using Oc h n hn) ?_;rintro _ h' ⟨rfl,rfl⟩;simp
theorem WE (h:ae) (n:Nat) (hn:n<64):aF FF lE [.int .i64 (n:Nat)] h (fun v h'=>v= .int .u64 ((2^lenOf n:Nat):Int)/\h'=h):=by
 have w:=g_ (n:Int) (by omega) (by omega);have hl:=Ab n;refine aF.of ua ?_;unfold lr;simp[w];refine aE.call (V:=fun v h'=>v= .int .i64 (lenOf n)/\h'=h) (by simpa using Es h n hn) ?_;rintro _ h' ⟨rfl,rfl⟩;generalize lenOf n=k at*;have s0: ∀k:Nat,k<=6->gY .shl .u64 1 (k:Int)=some (.int .u64 (2^k)):=by intro k hk;rcases(show k=0\/k=1\/k=2\/k=3\/k=4\/k=5\/k=6 by omega) with rfl|rfl|rfl|rfl|rfl|rfl|rfl<;>rfl
 have s1:=s0 k hl;simp[s1]
def NxQ (h:ae) (R:Nat) (v:Value) (h':ae):Prop:=(∃x:Int,v= .int .u64 x)/\ab (· =R) h h'/\ ∃(x:Int) (s:Nat),h'.tr.get R=some (.aA [.int .u64 x] false 0 s)
theorem RI (ok:bu h) {x:Int} (hR:h.tr.get R=some (.aA [.int .u64 x] false 0 s)):aF FF my [.pointer (some ⟨R,0,none⟩)] h (NxQ h R):=by refine aF.of uY ?_;unfold ma;have sh: ∀x:Int,∃z,gY .shl .u64 x 13=some (.int .u64 z):=fun x=>⟨_,rfl⟩;have sr: ∀x:Int,∃z,gY .shr .u64 x 7=some (.int .u64 z):=fun x=>⟨_,rfl⟩;have sl: ∀x:Int,∃z,gY .shl .u64 x 17=some (.int .u64 z):=fun x=>⟨_,rfl⟩;have xo: ∀x z:Int,∃w,fB .xor .u64 x z=some (.int .u64 w):=fun x z=>⟨_,rfl⟩;obtain⟨a1,e1⟩:=sh x;obtain⟨a2,e2⟩:=xo x a1;obtain⟨a3,e3⟩:=sr a2;obtain⟨a4,e4⟩:=xo a2 a3;obtain⟨a5,e5⟩:=sl a4;obtain⟨a6,e6⟩:=xo a4 a5;simp[hR,e1,e2,e3,e4,e5,e6,-fB];have gt:ab aG h (tick h):=(ab.refl ok).tick;have g1:ab (· =R) h (put (tick h) R 0 [.int .u64 x] [.int .u64 a2] 0):=gt.bt.trans (aM gt.ok hR);have h1:(put (tick h) R 0 [.int .u64 x] [.int .u64 a2] 0).tr.get R=some (.aA [.int .u64 a2] false 0 (tick h).clock):=aD _ _ _ _ _ _;have g2:=(g1.tick).trans (aM g1.tick.ok h1 (off:=0) (vs:=[.int .u64 a4]));have h2:(put (tick (put (tick h) R 0 [.int .u64 x] [.int .u64 a2] 0)) R 0 [.int .u64 a2] [.int .u64 a4] 0).tr.get R=some (.aA [.int .u64 a4] false 0 (tick (put (tick h) R 0 [.int .u64 x] [.int .u64 a2] 0)).clock):=aD _ _ _ _ _ _;have g3:=(g2.tick).trans (aM g2.tick.ok h2 (off:=0) (vs:=[.int .u64 a6]));exact⟨⟨a6,rfl⟩,g3,a6,_,aD _ _ _ _ _ _⟩
section
variable {P:Int×(Bool×Int)->Prop} {d n o c:Nat} {h0:ae} {y:Value}
theorem abE (x:Int) (k:Nat) (hk:k<=6): ∃r:Nat,fB .and .u64 x ((2^k:Nat)-1:Int)=some (.int .u64 r)/\r<2^k:=by
 have e:(BitVec.ofInt 64 ((2^k:Nat)-1:Int)).toNat=2^k-1:=by rcases(show k=0\/k=1\/k=2\/k=3\/k=4\/k=5\/k=6 by omega) with rfl|rfl|rfl|rfl|rfl|rfl|rfl<;>decide
 have hle:2^k<=64:=by rcases(show k=0\/k=1\/k=2\/k=3\/k=4\/k=5\/k=6 by omega) with rfl|rfl|rfl|rfl|rfl|rfl|rfl<;>decide
 have hp:0<2^k:=Nat.two_pow_pos k;have ha:(BitVec.ofInt 64 x &&& BitVec.ofInt 64 ((2^k:Nat)-1:Int)).toNat<2^k:=by rw[BitVec.toNat_and,e];have:=Nat.and_le_right (n:=(BitVec.ofInt 64 x).toNat) (m:=2^k-1);omega
 refine⟨(BitVec.ofInt 64 x &&& BitVec.ofInt 64 ((2^k:Nat)-1:Int)).toNat,?_,ha⟩;show some (Value.int .u64 (IntKind.u64.wrap ((BitVec.ofInt 64 x &&& BitVec.ofInt 64 ((2^k:Nat)-1:Int)).toNat:Int)))=_;rw[g_ _ (by omega) (by omega)]
structure SR (P:Int×(Bool×Int)->Prop) (d n o:Nat) (h0:ae) (R:Nat) (h:ae):Prop where
 sa:SA P d n o h0 h
 hR: ∃(x:Int) (s:Nat),h.tr.get R=some (.aA [.int .u64 x] false 0 s)
 n0:h0.next<=R
 ne:R≠d
def BpI (P:Int×(Bool×Int)->Prop) (d n o c:Nat) (h0:ae) (R a l M q:Nat) (m:Nat) (e:Env) (h':ae):Prop:=
 ∃i:Nat,m=a+q+2-i/\a+q<=i+1/\i<=a+q+2/\Env.get e 0= .slice (some ⟨d,0,none⟩) n c/\Env.get e 1= .int .i64 a/\Env.get e 8= .int .i64 l/\Env.get e 9= .pointer (some ⟨R,0,none⟩)/\Env.get e 10= .int .u64 (M:Int)/\Env.get e 11= .int .i64 i/\SR P d n o h0 R h'
def MZ:ak:=(J_ (G_ [m_ 43 12,m_ 44 8,B_ 45 .geq 43 44] (I_ 45 (O_ [m_ 46 12,m_ 47 8,B_ 48 .sub 46 47,m_ 12 48]) .skip)) (V_ [D_ (m_ 49 0),D_ (m_ 50 11),D_ (m_ 51 0),D_ (m_ 52 1),D_ (m_ 53 12),D_ (B_ 54 .add 52 53),D_ (m_ 55 0),D_ (m_ 56 1),D_ (m_ 57 12),D_ (B_ 58 .add 56 57),D_ (a_ 59 3 55 58),D_ (L_ 60 3 59),D_ (m_ 61 0),D_ (m_ 62 11),D_ (a_ 63 3 61 62),D_ (L_ 64 3 63),D_ (a_ 65 3 49 50),D_ (s_ 3 65 60),D_ (a_ 66 3 51 54),D_ (s_ 3 66 64)]))
theorem Ue:dQ= .seq (G_ [m_ 28 11,m_ 29 1,m_ 30 8,C_ 31 .quo 30 4,C_ 32 .mul 31 2,B_ 33 .add 29 32,C_ 34 .add 33 1,B_ 35 .leq 28 34] (H_ 35 0)) (J_ (P_ 1 (G_ [F_ 38 279 [t_ 9],m_ 39 10,o_ 40 (.bin .sub [] (t_ 39) (.const (.int .u64 1))),B_ 41 .and 38 40,o_ 42 (.conv .i64 (t_ 41)),m_ 12 42] MZ)) (O_ [m_ 36 11,C_ 37 .add 36 1,m_ 11 37])):=rfl
theorem Yq {R a l r i:Nat} (hl:a+l<=n) (hn:n<50) (hr:r<2*l) (hi:i<n) (w:SR P d n o h0 R h) {Q:aP->Env->ae->Prop} (q0:Env.get e 0= .slice (some ⟨d,0,none⟩) n c) (q1:Env.get e 1= .int .i64 a) (q8:Env.get e 8= .int .i64 l) (mE:Env.get e 11= .int .i64 i) (kg:Env.get e 12= .int .i64 r)
  (C: ∀e' h',SR P d n o h0 R h'->aw [12,43,44,45,46,47,48,49,50,51,52,53,54,55,56,57,58,59,60,61,62,63,64,65,66] e e'->Q .normal e' h'):aB FF MZ e h Q:=by
 obtain⟨x3,s3,Ga⟩:=w.hR;obtain⟨r2,Ef,hr2l⟩: ∃r2:Nat,(if l<=r then(r2:Int)=(r:Int)-(l:Int) else r2=r)/\r2<l:=by
  by_cases h:l<=r
  .exact⟨r-l,by rw[aU h];omega,by omega⟩
  .exact⟨r,by rw[aT h],by omega⟩
 obtain⟨j,hj⟩: ∃j,j=a+r2:=⟨_,rfl⟩;have wj:IntKind.i64.wrap ((a:Int)+(r2:Int))=(j:Int):=by rw[wrap_i64 _ (by omega) (by omega)];omega
 have Eb:j<n:=by omega
 obtain⟨g2,qc,s2,dq,tT,IM⟩:=id w.sa;obtain⟨x,hx⟩: ∃x,qc[i]? =some x:=⟨_,aX (by omega)⟩;obtain⟨z,hz⟩: ∃z,qc[j]? =some z:=⟨_,aX (by omega)⟩;have rdx:=bI dq hx;have rdz:=bI dq hz;have l1:i*3+3<=qc.length*3:=by omega
 have l2:j*3+3<=qc.length*3:=by omega
 have sp:=gm qc i z (by omega);have sw:=SA.swap (h:=tick h) g2.tick dq tT IM hx hz;have gsw:ab (· =d) h (put (put (tick h) d (i*3) (lK.flat qc) [.int .i64 z.1,.bool z.2.1,.int .i64 z.2.2] o) d (j*3) (lK.flat (qc.set i z)) [.int .i64 x.1,.bool x.2.1,.int .i64 x.2.2] o):=by have gt:ab aG h (tick h):=(ab.refl g2.ok).tick;have g4:=gt.bt.trans (aM gt.ok (b:=d) dq (off:=i*3) (vs:=[.int .i64 z.1,.bool z.2.1,.int .i64 z.2.2]));exact g4.trans (aM g4.ok (by rw[aD,sp]))
 have SRf:SR P d n o h0 R (put (put (tick h) d (i*3) (lK.flat qc) [.int .i64 z.1,.bool z.2.1,.int .i64 z.2.2] o) d (j*3) (lK.flat (qc.set i z)) [.int .i64 x.1,.bool x.2.1,.int .i64 x.2.2] o):=⟨sw,⟨x3,s3,gsw.get g2.ok Ga w.ne⟩,w.n0,w.ne⟩;unfold MZ;by_cases uJ:l<=r
 .rw[aU uJ] at Ef;have w10:IntKind.i64.wrap ((r:Int)-(l:Int))=(r2:Int):=by rw[wrap_i64 _ (by omega) (by omega)];omega
  simp[q0,q1,q8,mE,kg,uJ,w10,wj,hi,Eb,rdx,rdz,ay,dq,l1,l2,sp,-ag];refine C _ _ SRf ?_
  repeat (refine aw.set ?_)
  exact aw.refl _ _
 .rw[aT uJ] at Ef;subst Ef;simp[q0,q1,q8,mE,kg,uJ,wj,hi,Eb,rdx,rdz,ay,dq,l1,l2,sp,-ag];refine C _ _ SRf ?_
  repeat (refine aw.set ?_)
  exact aw.refl _ _
theorem M3 (hdh:h0.next<=h.next) (zX:a+13<=b) (iz:b<=n) (hn:n<50) (w:SA P d n o h0 h):
  aF FF eo [.slice (some ⟨d,0,none⟩) n c,.int .i64 a,.int .i64 b,y] h (fun _ h'=>SA P d n o h0 h'):=by
 obtain⟨l,hl⟩: ∃l,l=b-a:=⟨_,rfl⟩;have w1:IntKind.i64.wrap ((b:Int)-(a:Int))=(l:Int):=by rw[wrap_i64 _ (by omega) (by omega)];omega
 obtain⟨q4,hq4⟩: ∃q,q=l/4:=⟨_,rfl⟩;have w2:IntKind.i64.wrap ((l:Int)/4)=(q4:Int):=by rw[wrap_i64 _ (by omega) (by omega)];omega
 obtain⟨q,hq⟩: ∃q,q=q4*2:=⟨_,rfl⟩;have w3:IntKind.i64.wrap ((q4:Int)*2)=(q:Int):=by rw[wrap_i64 _ (by omega) (by omega)];omega
 have w4:IntKind.i64.wrap ((a:Int)+(q:Int))=((a+q:Nat):Int):=by rw[wrap_i64 _ (by omega) (by omega)];omega
 obtain⟨i0,hi0⟩: ∃i,i=a+q-1:=⟨_,rfl⟩;have w5:IntKind.i64.wrap (((a+q:Nat):Int)-1)=(i0:Int):=by rw[wrap_i64 _ (by omega) (by omega)];omega
 have w6:=g_ (l:Int) (by omega) (by omega);have h8:(8:Int)<=l:=by omega
 have hk6:=Ab l;have anW:=fun h=>WE h l (by omega);have BZ:2^lenOf l<=2*l:=by
  unfold lenOf
  repeat (split;omega)
  omega
 have hq1:q+2<=l:=by omega
 have Y9:1<=a+q:=by omega
 clear hq4 hq;generalize lenOf l=k at*;have hand: ∀x:Int,∃r:Nat,fB .and .u64 x ((2^k:Nat)-1:Int)=some (.int .u64 r)/\r<2^k:=fun x=>abE x k hk6;have hMp:=Nat.two_pow_pos k;generalize 2^k=M at*;obtain⟨g,xs,s,Fx,uv,hP⟩:=id w;have ld:=(g.ok.bA Fx).lt;refine aF.of jh ?_;unfold ec;simp[w1,h8,w6];refine aE.cut (fun h1=>SR P d n o h0 h.next h1) ?_ ?_
 .have gn:ab aG h (put (aL h [.int .u64 0] 0) h.next 0 [.int .u64 0] [.int .u64 l] 0):=(ab.refl g.ok).var _ _;exact⟨w.bt gn,⟨_,_,aD _ _ _ _ _ _⟩,hdh,by omega⟩
 intro h1 w1';refine aE.call (V:=fun v h'=>v= .int .u64 (M:Int)/\h'=h1) (by simpa using anW h1) ?_;rintro _ h2 ⟨rfl,e2⟩;rw[e2];have w4':IntKind.i64.wrap ((a:Int)+(q:Int))=(a:Int)+(q:Int):=by rw[w4];omega
 have w5':IntKind.i64.wrap ((a:Int)+(q:Int)-1)=(i0:Int):=by rw[<-w5];congr 1
 simp[w2,w3,w4',w5'];refine aB.loop (BpI P d n o c h0 h.next a l M q) ?_ (n:=a+q+2-i0) ⟨i0,rfl,by omega,by omega,by simp,by simp,by simp,by simp,by simp,by simp,w1'⟩;rintro m e' h' ⟨i,rfl,JP,Gd,q0,q1,q8,q9,Cm,mE,w'⟩;have w7:IntKind.i64.wrap ((a:Int)+(q:Int)+1)=(a:Int)+(q:Int)+1:=wrap_i64 _ (by omega) (by omega);rw[Ue];by_cases hi:i<=a+q+1
 .have C2:(i:Int)<=(a:Int)+(q:Int)+1:=by omega
  obtain⟨x,sx,hR⟩:=w'.hR;simp[q1,q8,q9,mE,w2,w3,w4',w7,C2];refine aE.call (V:=NxQ h' h.next) (by simpa [q9] using RI w'.sa.1.ok hR) ?_;rintro _ h3 ⟨⟨rx,rfl⟩,g3,x3,s3,Ga⟩;have sa3:SA P d n o h0 h3:=by obtain⟨gg,qc,s2,dq,tT,IM⟩:=w'.sa;exact⟨gg.trans' g3 (fun _ _ h=>h) (fun x hx e=>by have:=w'.n0;omega),qc,s2,g3.get gg.ok dq (fun e=>w'.ne e.symm),tT,IM⟩
  obtain⟨r,hr,hrk⟩:=hand rx;have w8:IntKind.u64.wrap ((M:Int)-1)=(M:Int)-1:=g_ _ (by omega) (by omega);have w9:IntKind.i64.wrap (r:Int)=(r:Int):=wrap_i64 _ (by omega) (by omega);have hs1:fB .sub .u64 (M:Int) 1=some (.int .u64 ((M:Int)-1)):=by simp[w8]
  have wi:=wrap_i64 ((i:Int)+1) (by omega) (by omega);simp[Cm,hs1,hr,w9,-fB];refine Yq (a:=a) (l:=l) (r:=r) (i:=i) (R:=h.next) (c:=c) (by omega) hn (by omega) (by omega) ⟨sa3,⟨x3,s3,Ga⟩,w'.n0,w'.ne⟩ (by simp[q0]) (by simp[q1]) (by simp[q8]) (by simp[mE]) (by simp) ?_;intro e4 h4 w4 K4;have k0:=K4.at (t:=0) (by simp;exact q0);have k1:=K4.at (t:=1) (by simp;exact q1);have k8:=K4.at (t:=8) (by simp;exact q8);have k9:=K4.at (t:=9) (by simp;exact q9);have k10:=K4.at (t:=10) (by simp;exact Cm);have k11:=K4.at (t:=11) (by simp;exact mE);simp[k11,wi];exact⟨a+q+2-(i+1),by omega,i+1,rfl,by omega,by omega,by simp[k0],by simp[k1],by simp[k8],by simp[k9],by simp[k10],by simp,w4⟩
 .have C2: ¬(i:Int)<=(a:Int)+(q:Int)+1:=by omega
  simp[q1,q8,mE,w2,w3,w4',w7,C2];exact w'.sa
end
def pdF:ak:=(G_ [m_ 38 10,o_ 39 (.un .not (t_ 38))] (I_ 39 (G_ [m_ 40 0,m_ 41 1,m_ 42 2,m_ 43 4,F_ 44 267 [t_ 40,t_ 41,t_ 42,t_ 43]] (O_ [m_ 45 3,C_ 46 .sub 45 1,m_ 3 46])) .skip))
def pdE:ak:=(O_ [m_ 48 0,m_ 49 1,m_ 50 2,m_ 51 4,F_ 52 268 [t_ 48,t_ 49,t_ 50,t_ 51],m_ 47 52,o_ 53 (.ext 0 (t_ 47)),o_ 54 (.ext 1 (t_ 47)),m_ 13 53,m_ 14 54])
def pdD:ak:=(G_ [m_ 55 14,o_ 56 (.bin .eql [1] (t_ 55) (i_ 2))] (I_ 56 (G_ [m_ 57 0,m_ 58 1,m_ 59 2,m_ 60 4,F_ 61 269 [t_ 57,t_ 58,t_ 59,t_ 60]] (G_ [m_ 62 2,C_ 63 .sub 62 1,m_ 64 13,m_ 65 1,B_ 66 .sub 64 65,B_ 67 .sub 63 66,m_ 13 67] (O_ [k_ 14 1]))) .skip))
def pdC:ak:=(G_ [m_ 68 10,m_ 69 68,q_ 70 69 true (.mv (t_ 11)),o_ 71 (.pick (t_ 69) (t_ 70) (b_ false)),m_ 72 71,q_ 73 72 true (.mv (t_ 14)),q_ 74 72 true (.bin .eql [1] (t_ 73) (i_ 1)),o_ 75 (.pick (t_ 72) (t_ 74) (b_ false))] (I_ 75 (G_ [m_ 76 0,m_ 77 1,m_ 78 2,m_ 79 4,F_ 80 270 [t_ 76,t_ 77,t_ 78,t_ 79]] (I_ 80 .ret .skip)) .skip))
def pdB:ak:=(J_ (V_ [D_ (m_ 81 1),D_ (C_ 82 .gtr 81 0),D_ (m_ 83 82),(q_ 84 83 true (.mv (t_ 4)),[]),(q_ 85 83 true (.mv (t_ 0)),[]),(q_ 86 83 true (.mv (t_ 1)),[]),(q_ 87 83 true (.bin .sub [] (t_ 86) (i_ 1)),[]),(q_ 88 83 true (.cR none 3 (t_ 85) (t_ 87)),[]),(q_ 89 83 true (.load (some 3) (t_ 88)),[]),(q_ 90 83 true (.mv (t_ 0)),[]),(q_ 91 83 true (.mv (t_ 13)),[]),(q_ 92 83 true (.cR none 3 (t_ 90) (t_ 91)),[]),(q_ 93 83 true (.load (some 3) (t_ 92)),[]),(q_ 94 83 true (.call (t_ 84) [t_ 89,t_ 93]),[]),(q_ 95 83 true (.bin .lss [] (t_ 94) (i_ 0)),[]),(q_ 96 83 true (.un .not (t_ 95)),[]),(o_ 97 (.pick (t_ 83) (t_ 96) (b_ false)),[])]) (I_ 97 (G_ [m_ 98 0,m_ 99 1,m_ 100 2,m_ 101 13,m_ 102 4,F_ 103 271 [t_ 98,t_ 99,t_ 100,t_ 101,t_ 102],m_ 15 103] (G_ [m_ 104 15,m_ 1 104] (.exit 1))) .skip))
def pdA:ak:=(G_ [m_ 106 0,m_ 107 1,m_ 108 2,m_ 109 13,m_ 110 4,F_ 111 272 [t_ 106,t_ 107,t_ 108,t_ 109,t_ 110],m_ 105 111,o_ 112 (.ext 0 (t_ 105)),o_ 113 (.ext 1 (t_ 105)),m_ 16 112,m_ 17 113] (G_ [m_ 114 17,m_ 11 114] (G_ [m_ 115 16,m_ 116 1,B_ 117 .sub 115 116,m_ 118 2,m_ 119 16,B_ 120 .sub 118 119,m_ 18 117,m_ 19 120] (G_ [m_ 121 12,C_ 122 .quo 121 8,m_ 20 122] (G_ [m_ 123 18,m_ 124 19,B_ 125 .lss 123 124] (I_ 125 (G_ [m_ 126 18,m_ 127 20,B_ 128 .geq 126 127,m_ 10 128] (G_ [m_ 129 0,m_ 130 1,m_ 131 16,m_ 132 3,m_ 133 4,F_ 134 244 [t_ 129,t_ 130,t_ 131,t_ 132,t_ 133]] (O_ [m_ 135 16,C_ 136 .add 135 1,m_ 1 136]))) (G_ [m_ 137 19,m_ 138 20,B_ 139 .geq 137 138,m_ 10 139] (G_ [m_ 140 0,m_ 141 16,C_ 142 .add 141 1,m_ 143 2,m_ 144 3,m_ 145 4,F_ 146 244 [t_ 140,t_ 142,t_ 143,t_ 144,t_ 145]] (O_ [m_ 147 16,m_ 2 147])))))))))
theorem WA:dv= .block 1 (G_ [m_ 21 2,m_ 22 1,B_ 23 .sub 21 22,m_ 12 23] (J_ (G_ [m_ 24 12,C_ 25 .leq 24 12] (I_ 25 (G_ [m_ 26 0,m_ 27 1,m_ 28 2,m_ 29 4,F_ 30 265 [t_ 26,t_ 27,t_ 28,t_ 29]] .ret) .skip)) (J_ (G_ [m_ 31 3,o_ 32 (.bin .eql [1] (t_ 31) (i_ 0))] (I_ 32 (G_ [m_ 33 0,m_ 34 1,m_ 35 2,m_ 36 4,F_ 37 266 [t_ 33,t_ 34,t_ 35,t_ 36]] .ret) .skip)) (J_ pdF (J_ pdE (J_ pdD (J_ pdC (J_ pdB pdA)))))))):=rfl
section
variable {P:Int×(Bool×Int)->Prop} {d n o c:Nat} {h0:ae} {y:Value}
structure PQ (d n c:Nat) (y:Value) (a b lim:Nat) (e:Env):Prop where
 f0:Env.get e 0= .slice (some ⟨d,0,none⟩) n c
 f1:Env.get e 1= .int .i64 a
 f2:Env.get e 2= .int .i64 b
 f3:Env.get e 3= .int .i64 lim
 f4:Env.get e 4=y
 f10: ∃t:Bool,Env.get e 10= .bool t
 f11: ∃t:Bool,Env.get e 11= .bool t
 f12:Env.get e 12= .int .i64 ((b-a:Nat):Int)
theorem Wz (zX:a+13<=b) (iz:b<=n) (hn:n<50) (hl:0<lim) (tT:lim<=6) (w:SA P d n o h0 h) {Q:aP->Env->ae->Prop} (E:PQ d n c y a b lim e) (K: ∀e' h' Zr,PQ d n c y a b Zr e'->Zr<=6->SA P d n o h0 h'->Q .normal e' h'):aB FF pdF e h Q:=by
 obtain⟨f0,f1,f2,f3,f4,⟨t,f10⟩,⟨u,f11⟩,f12⟩:=E;unfold pdF;cases t with
 |true=>
  simp[f10];exact K _ _ lim ⟨by simp[f0],by simp[f1],by simp[f2],by simp[f3],by simp[f4],⟨true,by simp[f10]⟩,⟨u,by simp[f11]⟩,by simp[f12]⟩ tT w
 |false=>
  obtain⟨k,hk⟩: ∃k,k=lim-1:=⟨_,rfl⟩;have wk:IntKind.i64.wrap ((lim:Int)-1)=(k:Int):=by rw[wrap_i64 _ (by omega) (by omega)];omega
  simp[f10,f0,f1,f2,f4];refine aE.call (V:=fun _ h'=>SA P d n o h0 h') (by simpa using M3 (c:=c) (y:=y) w.1.next zX iz hn w) ?_;rintro v h2 w2;simp[f3,wk];exact K _ _ k ⟨by simp[f0],by simp[f1],by simp[f2],by simp,by simp[f4],⟨false,by simp[f10]⟩,⟨u,by simp[f11]⟩,by simp[f12]⟩ (by omega) w2
theorem Wy (Y:jd y) (zX:a+13<=b) (iz:b<=n) (hn:n<50) (w:SA P d n o h0 h) {Q:aP->Env->ae->Prop} (E:PQ d n c y a b lim e) (K: ∀e' h' (j:Nat) (t:Int),PQ d n c y a b lim e'->Env.get e' 13= .int .i64 j->Env.get e' 14= .int .i64 t->a<=j->j<b->SA P d n o h0 h'->Q .normal e' h'):aB FF pdE e h Q:=by obtain⟨f0,f1,f2,f3,f4,⟨t,f10⟩,⟨u,f11⟩,f12⟩:=E;unfold pdE;simp[f0,f1,f2,f4];refine aE.call (V:=CpQ P d n o a b h0) (by simpa using OB (c:=c) Y w.1.next (by omega) iz hn w) ?_;rintro _ h2 ⟨w2,j,t2,rfl,Fy,Ea⟩;simp;exact K _ _ j t2 ⟨by simp[f0],by simp[f1],by simp[f2],by simp[f3],by simp[f4],⟨t,by simp[f10]⟩,⟨u,by simp[f11]⟩,by simp[f12]⟩ (by simp) (by simp) Fy Ea w2
theorem Wx (zX:a+13<=b) (iz:b<=n) (hn:n<50) (Fy:a<=j) (Ea:j<b) (w:SA P d n o h0 h) {Q:aP->Env->ae->Prop} (E:PQ d n c y a b lim e) (f13:Env.get e 13= .int .i64 j) (f14:Env.get e 14= .int .i64 t)
  (K: ∀e' h' (j:Nat) (t:Int),PQ d n c y a b lim e'->Env.get e' 13= .int .i64 j->Env.get e' 14= .int .i64 t->a<=j->j<b->SA P d n o h0 h'->Q .normal e' h'):aB FF pdD e h Q:=by
 have Yn:=E.f10;have X11:=E.f11;obtain⟨f0,f1,f2,f3,f4,⟨tt,f10⟩,⟨u,f11⟩,f12⟩:=E;unfold pdD;by_cases ht:t=2
 .subst ht;obtain⟨k,hk⟩: ∃k,k=b-1-(j-a):=⟨_,rfl⟩;have w1:=wrap_i64 ((b:Int)-1) (by omega) (by omega);have w2:=wrap_i64 ((j:Int)-(a:Int)) (by omega) (by omega);have w3:IntKind.i64.wrap ((b:Int)-1-((j:Int)-(a:Int)))=(k:Int):=by rw[wrap_i64 _ (by omega) (by omega)];omega
  simp[f0,f1,f2,f4,f14];refine aE.call (V:=fun _ h'=>SA P d n o h0 h') (by simpa using Gm (c:=c) (y:=y) iz (by omega) (by omega) w) ?_;rintro v h2 w';simp[f1,f2,f13,w1,w2,w3];exact K _ _ k 1 ⟨by simp[f0],by simp[f1],by simp[f2],by simp[f3],by simp[f4],⟨tt,by simp[f10]⟩,⟨u,by simp[f11]⟩,by simp[f12]⟩ (by simp) (by simp) (by omega) (by omega) w'
 .have zp:(t==2)=false:=by simpa using ht
  simp[f14,zp];exact K _ _ j t ⟨by simp[f0],by simp[f1],by simp[f2],by simp[f3],by simp[f4],⟨tt,by simp[f10]⟩,⟨u,by simp[f11]⟩,by simp[f12]⟩ (by simp[f13]) (by simp[f14]) Fy Ea w
theorem Ww (Y:jd y) (zX:a+13<=b) (iz:b<=n) (hn:n<50) (w:SA P d n o h0 h) {Q:aP->Env->ae->Prop} (E:PQ d n c y a b lim e) (f13:Env.get e 13= .int .i64 j) (f14:Env.get e 14= .int .i64 t)
  (K1: ∀e' h',SA P d n o h0 h'->Q .ret e' h') (K: ∀e' h',PQ d n c y a b lim e'->Env.get e' 13= .int .i64 j->SA P d n o h0 h'->Q .normal e' h'):aB FF pdC e h Q:=by
 have Yn:=E.f10;have X11:=E.f11;obtain⟨f0,f1,f2,f3,f4,⟨tt,f10⟩,⟨u,f11⟩,f12⟩:=E;unfold pdC;cases tt with
 |false=>
  simp[f10];exact K _ _ ⟨by simp[f0],by simp[f1],by simp[f2],by simp[f3],by simp[f4],(Exists.imp (fun _ h=>by simp[h]) Yn),⟨u,by simp[f11]⟩,by simp[f12]⟩ (by simp[f13]) w
 |true=>
  cases u with
  |false=>
   simp[f10,f11];exact K _ _ ⟨by simp[f0],by simp[f1],by simp[f2],by simp[f3],by simp[f4],(Exists.imp (fun _ h=>by simp[h]) Yn),(Exists.imp (fun _ h=>by simp[h]) X11),by simp[f12]⟩ (by simp[f13]) w
  |true=>
   by_cases ht:t=1
   .subst ht;simp[f0,f1,f2,f4,f10,f11,f14];refine aE.call (V:=afk P d n o h0) (by simpa using Ji (c:=c) Y (by omega) iz hn w) ?_;rintro _ h2 ⟨w2,q,rfl⟩;cases q with
    |true=>
     simp;exact K1 _ _ w2
    |false=>
     simp;exact K _ _ ⟨by simp[f0],by simp[f1],by simp[f2],by simp[f3],by simp[f4],(Exists.imp (fun _ h=>by simp[h]) Yn),(Exists.imp (fun _ h=>by simp[h]) X11),by simp[f12]⟩ (by simp[f13]) w2
   .have zp:(t==1)=false:=by simpa using ht
    simp[f10,f11,f14,zp];exact K _ _ ⟨by simp[f0],by simp[f1],by simp[f2],by simp[f3],by simp[f4],(Exists.imp (fun _ h=>by simp[h]) Yn),(Exists.imp (fun _ h=>by simp[h]) X11),by simp[f12]⟩ (by simp[f13]) w
theorem Wv (Y:jd y) (zX:a+13<=b) (iz:b<=n) (hn:n<50) (Fy:a<=j) (Ea:j<b) (w:SA P d n o h0 h) {Q:aP->Env->ae->Prop} (E:PQ d n c y a b lim e) (f13:Env.get e 13= .int .i64 j)
  (K1: ∀e' h' (a':Nat),a<a'->a'<=b->Env.get e' 0= .slice (some ⟨d,0,none⟩) n c->Env.get e' 1= .int .i64 a'->Env.get e' 2= .int .i64 b->Env.get e' 3= .int .i64 lim->Env.get e' 4=y->(∃t:Bool,Env.get e' 10= .bool t)->(∃t:Bool,Env.get e' 11= .bool t)->SA P d n o h0 h'->Q (.exit 1) e' h')
  (K: ∀e' h',PQ d n c y a b lim e'->Env.get e' 13= .int .i64 j->SA P d n o h0 h'->Q .normal e' h'):aB FF pdB e h Q:=by
 have Yn:=E.f10;have X11:=E.f11;obtain⟨f0,f1,f2,f3,f4,⟨tt,f10⟩,⟨u,f11⟩,f12⟩:=E;unfold pdB;obtain⟨g,xs,s,hb,hl,hP⟩:=id w;by_cases ha:0<a
 .obtain⟨k,hk⟩: ∃k,k=a-1:=⟨_,rfl⟩;have wk:IntKind.i64.wrap ((a:Int)-1)=(k:Int):=by rw[wrap_i64 _ (by omega) (by omega)];omega
  have Ec:k<n:=by omega
  have Eb:j<n:=by omega
  obtain⟨x,hx⟩: ∃x,xs[k]? =some x:=⟨_,aX (by omega)⟩;obtain⟨z,hz⟩: ∃z,xs[j]? =some z:=⟨_,aX (by omega)⟩;have rx:=bI hb hx;have rz:=bI hb hz;simp[f0,f1,f4,f13,ha,wk,Ec,Eb,rx,rz,ay,-ag];refine aQ.cut (fun h1=>ab aG h h1) ?_ ?_
  .exact(ab.refl g.ok).tick
  intro h1 g1;refine aQ.cD (V:=fun v BW=>(∃c:Int,v= .int .i64 c)/\ab aG h1 BW) (by simpa [f4] using Y h1 x z g1.ok) ?_;rintro _ h2 ⟨⟨cv,rfl⟩,g2⟩;have w2:=(w.bt g1).bt g2;by_cases hc:cv<0
  .simp[hc];exact K _ _ ⟨by simp[f0],by simp[f1],by simp[f2],by simp[f3],by simp[f4],(Exists.imp (fun _ h=>by simp[h]) Yn),(Exists.imp (fun _ h=>by simp[h]) X11),by simp[f12]⟩ (by simp[f13]) w2
  .simp[hc,f0,f1,f2,f4,f13];refine aE.call (V:=afj P d n o a b h0) (by simpa using LG (c:=c) Y iz (by omega) Fy Ea w2) ?_;rintro _ h3 ⟨w3,i,rfl,JP,Gd⟩;simp;exact K1 _ _ i JP Gd (by simp[f0]) (by simp) (by simp[f2]) (by simp[f3]) (by simp[f4]) (Exists.imp (fun _ h=>by simp[h]) Yn) (Exists.imp (fun _ h=>by simp[h]) X11) w3
 .have ha0:a=0:=by omega
  simp[f1,ha];exact K _ _ ⟨by simp[f0],by simp[f1],by simp[f2],by simp[f3],by simp[f4],(Exists.imp (fun _ h=>by simp[h]) Yn),(Exists.imp (fun _ h=>by simp[h]) X11),by simp[f12]⟩ (by simp[f13]) (w.bt ((ab.refl g.ok).tick))
end
section
variable {P:Int×(Bool×Int)->Prop} {d n o c:Nat} {h0:ae} {y:Value}
def abz (P:Int×(Bool×Int)->Prop) (d n o c:Nat) (h0:ae) (y:Value) (k:Nat):Prop:= ∀(a b lim:Nat) (h:ae),b-a<k->a<=b->b<=n->lim<=6->SA P d n o h0 h->aF FF fM [.slice (some ⟨d,0,none⟩) n c,.int .i64 a,.int .i64 b,.int .i64 lim,y] h (fun _ h'=>SA P d n o h0 h')
structure PQ0 (d n c:Nat) (y:Value) (a b lim:Nat) (e:Env):Prop where
 f0:Env.get e 0= .slice (some ⟨d,0,none⟩) n c
 f1:Env.get e 1= .int .i64 a
 f2:Env.get e 2= .int .i64 b
 f3:Env.get e 3= .int .i64 lim
 f4:Env.get e 4=y
 f10: ∃t:Bool,Env.get e 10= .bool t
 f11: ∃t:Bool,Env.get e 11= .bool t
theorem Wu (Y:jd y) (zX:a+13<=b) (iz:b<=n) (hn:n<50) (hl:lim<=6) (Fy:a<=j) (Ea:j<b) (IH:abz P d n o c h0 y (b-a)) (w:SA P d n o h0 h) {Q:aP->Env->ae->Prop} (E:PQ d n c y a b lim e) (f13:Env.get e 13= .int .i64 j)
  (K: ∀e' h' (a' b':Nat),PQ0 d n c y a' b' lim e'->a'<=b'->b'<=n->b'-a'<b-a->SA P d n o h0 h'->Q .normal e' h'):aB FF pdA e h Q:=by
 obtain⟨f0,f1,f2,f3,f4,_,_,f12⟩:=E;unfold pdA;simp[f0,f1,f2,f4,f13];refine aE.call (V:=PtQ P d n o a b h0) (by simpa using R7 (c:=c) Y iz (by omega) Fy Ea w) ?_;rintro _ h2 ⟨w2,m,t,rfl,PR,hm2⟩;obtain⟨l,G1⟩: ∃l,l=m-a:=⟨_,rfl⟩;obtain⟨r,o7⟩: ∃r,r=b-m:=⟨_,rfl⟩;have w3:IntKind.i64.wrap ((m:Int)-(a:Int))=(l:Int):=by rw[wrap_i64 _ (by omega) (by omega)];omega
 have w4:IntKind.i64.wrap ((b:Int)-(m:Int))=(r:Int):=by rw[wrap_i64 _ (by omega) (by omega)];omega
 have w5:=wrap_i64 ((m:Int)+1) (by omega) (by omega);obtain⟨q,hq⟩: ∃q,q=b-a:=⟨_,rfl⟩;rw[<-hq] at f12;have w6:=wrap_i64 ((q:Int)/8) (by omega) (by omega);by_cases hlr:l<r
 .simp[f0,f1,f2,f3,f4,f12,w3,w4,w6,hlr];refine aE.call (V:=fun _ h'=>SA P d n o h0 h') (by simpa using IH a m lim h2 (by omega) PR (by omega) hl w2) ?_;rintro v h3 w7;simp[w5];exact K _ _ (m+1) b ⟨by simp[f0],by simp,by simp[f2],by simp[f3],by simp[f4],⟨_,by simp;rfl⟩,⟨t,by simp⟩⟩ (by omega) iz (by omega) w7
 .simp[f0,f1,f2,f3,f4,f12,w3,w4,w5,w6,hlr];refine aE.call (V:=fun _ h'=>SA P d n o h0 h') (by simpa using IH (m+1) b lim h2 (by omega) (by omega) iz hl w2) ?_;rintro v h3 w7;simp;exact K _ _ a m ⟨by simp[f0],by simp[f1],by simp,by simp[f3],by simp[f4],⟨_,by simp;rfl⟩,⟨t,by simp⟩⟩ PR (by omega) (by omega) w7
def PdI (P:Int×(Bool×Int)->Prop) (d n o c:Nat) (h0:ae) (y:Value) (k:Nat) (m:Nat) (e:Env) (h':ae):Prop:=
 ∃a b lim:Nat,m=b-a/\b-a<k/\a<=b/\b<=n/\lim<=6/\PQ0 d n c y a b lim e/\SA P d n o h0 h'
theorem WC (Y:jd y) (hn:n<50): ∀k,abz P d n o c h0 y k:=by
 intro k;induction k with
 |zero=>intro a b lim h hk;omega
 |succ k ih=>
  intro a b lim h hk zX iz hl w;refine aF.of fJ ?_;unfold dH;simp;refine aB.loop (PdI P d n o c h0 y (k+1)) ?_ (n:=b-a) ⟨a,b,lim,rfl,hk,zX,iz,hl,⟨by simp,by simp,by simp,by simp,by simp,⟨true,by simp⟩,⟨true,by simp⟩⟩,w⟩;rintro m e h' ⟨a,b,lim,rfl,hk,zX,iz,hl,⟨f0,f1,f2,f3,f4,f10,f11⟩,w⟩;rw[WA];obtain⟨q,hq⟩: ∃q,q=b-a:=⟨_,rfl⟩;have w1:IntKind.i64.wrap ((b:Int)-(a:Int))=(q:Int):=by rw[wrap_i64 _ (by omega) (by omega)];omega
  by_cases h12:q<=12
  .have YJ:(q:Int)<=12:=by omega
   simp[f0,f1,f2,f4,w1,YJ];refine aE.call (V:=fun _ h'=>SA P d n o h0 h') (by simpa using En (c:=c) Y iz zX (by omega) w) ?_;rintro v h2 w2;simp;exact w2
  have YJ: ¬(q:Int)<=12:=by omega
  by_cases hz:lim=0
  .subst hz;simp[f0,f1,f2,f3,f4,w1,YJ];refine aE.call (V:=fun _ h'=>SA P d n o h0 h') (by simpa using Q8 (c:=c) Y (by omega) iz (by omega) w) ?_;rintro v h2 w2;simp;exact w2
  have Tw:((lim:Int)==0)=false:=by simp;omega
  simp[f1,f2,f3,w1,YJ,Tw];have IH:abz P d n o c h0 y (b-a):=by intro a' b' Zr h' vM h1 h2 h3 w';exact ih a' b' Zr h' (by omega) h1 h2 h3 w'
  have h13:a+13<=b:=by omega
  refine Wz (c:=c) (y:=y) (a:=a) (b:=b) (lim:=lim) h13 iz hn (by omega) hl w ⟨by simp[f0],by simp[f1],by simp[f2],by simp[f3],by simp[f4],Exists.imp (fun _ h=>by simp[h]) f10,Exists.imp (fun _ h=>by simp[h]) f11,by simp[hq]⟩ ?_;intro e1 h1 ah1 E1 G1 w1;simp;refine Wy Y h13 iz hn w1 E1 ?_;intro e2 h2 j2 t2 E2 X7 k14 Fy Ea w2;simp;refine Wx h13 iz hn Fy Ea w2 E2 X7 k14 ?_;intro e3 h3 j3 t3 E3 l13 l14 ag8 ag9 w3;simp;refine Ww Y h13 iz hn w3 E3 l13 l14 (fun e' h' w'=>by simpa using w') ?_;intro e4 h4 E4 V0 w4;simp;refine Wv Y h13 iz hn ag8 ag9 w4 E4 V0 ?_ ?_
  .intro e5 h5 a5 ha1 ha2 p0 p1 p2 p3 p4 p10 p11 w5;simp;exact⟨b-a5,by omega,a5,b,ah1,rfl,by omega,ha2,iz,G1,⟨p0,p1,p2,p3,p4,p10,p11⟩,w5⟩
  intro e5 h5 E5 n13 w5;simp;refine Wu Y h13 iz hn G1 ag8 ag9 IH w5 E5 n13 ?_;intro e6 h6 a6 b6 E6 amJ amS ef w6;simp;exact⟨b6-a6,ef,a6,b6,ah1,rfl,by omega,amJ,amS,G1,E6,w6⟩
theorem SH (Y:jd y) (hn:n<50) (w:SA P d n o h0 h):aF FF cY [.slice (some ⟨d,0,none⟩) n c,y] h (fun _ h'=>SA P d n o h0 h'):=by have w1:=g_ (n:Int) (by omega) (by omega);have hl:=Ab n;refine aF.of eJ ?_;unfold cW;simp[w1];refine aE.call (V:=fun v h'=>v= .int .i64 (lenOf n)/\h'=h) (by simpa using Es h n (by omega)) ?_;rintro _ h' ⟨rfl,e⟩;rw[e];simp;refine aE.call (V:=fun _ h'=>SA P d n o h0 h') (by simpa using WC (c:=c) Y hn (n+1) 0 n (lenOf n) h (by omega) (by omega) (dK _) hl w) ?_;rintro v h2 w2;simp;exact w2
theorem Xi (h:ae) (y:Value):aF FF cY [.slice none 0 0,y] h (fun _ h'=>h'=h):=by
 have w1:IntKind.u64.wrap 0=0:=g_ _ (by omega) (by omega);refine aF.of eJ ?_;unfold cW;simp[w1];refine aE.call (V:=fun v h'=>v= .int .i64 0/\h'=h) (by simpa [lenOf] using Es h 0 (by omega)) ?_;rintro _ h' ⟨rfl,e⟩;rw[e];simp;refine aE.call (V:=fun _ h'=>h'=h) ?_ ?_
 .have w2:IntKind.i64.wrap (0-0)=0:=wrap_i64 _ (by omega) (by omega);have w2':IntKind.i64.wrap 0=0:=wrap_i64 _ (by omega) (by omega);have w3:IntKind.i64.wrap (0+1)=1:=wrap_i64 _ (by omega) (by omega);have w3':IntKind.i64.wrap 1=1:=wrap_i64 _ (by omega) (by omega);simp;refine aF.of fJ ?_;unfold dH;simp;rw[nJ];unfold dv;simp[w2,w2'];refine aE.call (V:=fun _ h'=>h'=h) ?_ ?_
  .simp;refine aF.of ee ?_;unfold cM;simp[w3,w3'];rw[nJ];unfold cG;simp
  .rintro v h2 rfl;simp
 .rintro v h2 rfl;simp
end
end Go.Proofs.YtdhnndleffachaaGreatDoor
namespace Go.AI.Edge
variable {cT:List (List Int)}
def rowOf (cT:List (List Int)) (u:Nat):Nat->List Int
 |0=>[]
 |k+1=>rowOf cT u k++List.replicate ((((cT[k]?).getD []).map Int.toNat).count u) (k:Int)
theorem LS (i u:Nat): ∀(ts:List Int) (out:List (List Int)),(∀t∈ts,t.toNat<out.length)->((jc out i ts)[u]?).getD []=((out[u]?).getD [])++List.replicate ((ts.map Int.toNat).count u) (i:Int)
 |[],out,_=>by simp[jc]
 |t::ts,out,h=>by
  show((jc (tv out i t) i ts)[u]?).getD []=_;rw[LS i u ts (tv out i t) (fun x hx=>by rw[Dv];exact h x (CZ _ hx))];have ht:=h t (D2 ..);have e:((tv out i t)[u]?).getD []=((out[u]?).getD [])++(if t.toNat=u then [(i:Int)] else []):=by
   unfold tv;rw[eR];by_cases e:t.toNat=u
   .subst e;rw[aU rfl,aU ht,aU rfl];rfl
   .rw[aT e,aT e,List.append_nil]
  rw[e,Fw,List.count_cons,xU];congr 1;by_cases e:t.toNat=u
  .rw[aU e];simp[e,List.replicate_succ]
  .rw[aT e];simp[e]
theorem Fm {cT:List (List Int)} {n:Nat} (h: ∀ts∈cT,∀t∈ts,t.toNat<n) (u:Nat): ∀k,((upto n cT k)[u]?).getD []=rowOf cT u k
 |0=>by unfold upto rowOf;rw[UH];split<;>rfl
 |k+1=>by
  unfold upto rowOf;cases hk:cT[k]? with
  |none=>
   dsimp only;rw[Fm h u k];simp
  |some ts=>
   dsimp only;rw[LS k u ts _ (fun t ht=>by rw[rN];exact h ts (dk hk) t ht),Fm h u k];rfl
theorem qe (h: ∀ts∈cT,∀t∈ts,t.toNat<cT.length) {u:Nat} {ps:List Int} (hp:(bw cT)[u]? =some ps):ps=rowOf cT u cT.length:=by have:=Fm h u cT.length;unfold bw at hp;rw[hp] at this;exact this
def qg (cT:List (List Int)) (u k:Nat):Nat:=(((cT[k]?).getD []).map Int.toNat).count u
theorem vk (cT:List (List Int)) (u:Nat) (f:Int->Bool): ∀k,((rowOf cT u k).filter f).length=((List.range k).map fun i:Nat=>if f (i:Int) then qg cT u i else 0).sum
 |0=>rfl
 |k+1=>by unfold rowOf;rw[List.filter_append,IG,vk cT u f k,List.range_succ,List.map_append,List.sum_append_nat];congr 1;simp only[Fw,List.map_nil,Mu,List.sum_nil,ID];rw[List.filter_replicate];unfold qg;split<;>simp
theorem lI (cT:List (List Int)) (u k:Nat):(rowOf cT u k).length=((List.range k).map fun i=>qg cT u i).sum:=by have:=vk cT u (fun _=>true) k;rw[List.filter_eq_self.2 (fun _ _=>rfl)] at this;simpa using this
theorem zi (f:Nat->Bool) (g:Nat->Nat): ∀l:List Nat,(l.map fun i=>if f i then g i else 0).sum=((l.filter f).map g).sum
 |[]=>rfl
 |x::l=>by rw[Fw,Mu,zi f g l,List.filter_cons];cases f x<;>simp
theorem Me {l m:List Nat} (h:l.Perm m) (g:Nat->Nat):(l.map g).sum=(m.map g).sum:=by
 induction h with
 |nil=>rfl
 |cons x _ ih=>simp[ih]
 |swap x y l=>simp;omega
 |trans _ _ a b=>exact a.trans b
theorem Eo {cT JI:List (List Int)} {aK:List Nat} (nd:aK.Nodup) (ef: ∀x∈aK,x<cT.length) (hl:JI.length=aK.length)
  (jT: ∀(i k:Nat),aK[i]? =some k-> ∃ts BC,cT[k]? =some ts/\JI[i]? =some BC/\BC.length=ts.length/\ ∀(j:Nat) (t t':Int),ts[j]? =some t->BC[j]? =some t'->0<=t'/\aK[t'.toNat]? =some t.toNat)
  {i k:Nat} (hk:aK[i]? =some k) (f:Int->Bool) (hf: ∀x:Nat,x<cT.length->(f (x:Int)=true↔x∈aK)):(rowOf JI i JI.length).length=((rowOf cT k cT.length).filter f).length:=by
 rw[lI,vk,zi (fun i=>f (i:Int))];have e1:(List.range JI.length).map (fun j=>qg JI i j)=aK.map (fun j=>qg cT k j):=by
  refine zV fun j=> ?_;rw[tQ,tQ];rcases AV j aK.length with hj|hj
  .have ho:aK[j]? =some aK[j]:=aX hj;rw[List.getElem?_range (by omega),ho];simp only[CJ];congr 1;obtain⟨ts,BC,h1,h2,h3,h4⟩:=jT j _ ho;unfold qg;rw[h1,h2];simp only[Option.getD_some];have:BC.map (fun t=>decide (t.toNat=i))=ts.map (fun t=>decide (t.toNat=k)):=by
    refine zV fun q=> ?_;rw[tQ,tQ];rcases AV q ts.length with hq|hq
    .have a1:ts[q]? =some ts[q]:=aX hq;have a2:BC[q]? =some (BC[q]'(by omega)):=aX (by omega);obtain⟨_,b2⟩:=h4 q _ _ a1 a2;rw[a1,a2];simp only[CJ];congr 1;refine decide_eq_decide.2 ⟨fun h=> ?_,fun h=> ?_⟩
     .rw[h,hk] at b2;cases b2;rfl
     .rw[h] at b2;have l1:=(bY.mp b2).1;have l2:=(bY.mp hk).1;have m1:=(bY.mp b2).2;have m2:=(bY.mp hk).2;exact(List.getElem_inj nd).1 (m1.trans m2.symm)
    .rw[uI (by omega),uI (by omega)];rfl
   have c1: ∀(l:List Int) (u:Nat),(l.map Int.toNat).count u=(l.map (fun t=>decide (t.toNat=u))).count true:=by
    intro l u;induction l with
    |nil=>rfl
    |cons x l ih=>simp[List.count_cons,ih]
   rw[c1,c1,this]
  .rw[uI (by simp;omega),uI (by omega)];rfl
 rw[e1];refine Me ?_ _;refine(List.perm_ext_iff_of_nodup nd (List.Pairwise.filter _ List.nodup_range)).2 fun x=> ?_;rw[NA,NB];constructor
 .intro h;exact⟨ef x h,(hf x (ef x h)).2 h⟩
 .rintro⟨h1,h2⟩;exact(hf x h1).1 h2
end Go.AI.Edge
