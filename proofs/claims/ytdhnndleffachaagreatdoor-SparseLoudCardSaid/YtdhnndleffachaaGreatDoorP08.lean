/- Parts of the proof. -/
import Derived.Test.YtdhnndleffachaaGreatDoorP07
import Derived.Test.YtdhnndleffachaaGreatDoorP05
set_option linter.all false
namespace Go.Proofs.YtdhnndleffachaaGreatDoor
open Go.AI
variable {A B F L O P T:SV} {aK:List Nat} {ah:List (List Int)} {ai b i n n0 o s:Nat} {ats:List Int} {cap ub xT κ κ0 κ1:Nat->Nat} {h h1:ae} {kind p rg:Int} {name:ByteArray} {on:Bool×Int} {q:Int×SV} {qs:List (Int×SV)} {r:XR} {rs xs:List XR} {vs:List (Bool×Int)} {ws:List SV}
theorem Z3 {v:Value} {xs:List (Int×(Bool×Int))} (a:cI lK n0 h v xs):v= .slice none 0 0/\xs=[]\/ ∃b s,v= .slice (some ⟨b,0,none⟩) xs.length xs.length/\h.tr.get b=some (.aA (lK.flat xs) false 3 s)/\n0<=b:=by
 rcases a with⟨h1,h2⟩|⟨b,s,h1,h2,_,h3⟩
 .exact .inl ⟨h2,h1⟩
 .exact .inr ⟨b,s,h1,h2,h3⟩
def mo (ats:List Int) (a:Int):Bool:=decide (0<=(ats[a.toNat]?).getD (-1))
def akz (h:ae) (ats:List Int) (ps:List Int) (row:List (Bool×Int)) (ai:Nat) (e:Env) (m:Nat) (e':Env) (h':ae):Prop:=
 ∃(j:Nat) (L:SV) (rl:List (Int×(Bool×Int))),m=row.length-j/\j<=row.length/\aw [15,16,17,18,64,65,66,67,68,69,70,71,72,73,74,75,76,77,78,79,80,81,82,83,84,85,86,87] e e'/\Env.get e' 64= .int .i64 j/\Env.get e' 15=L.v/\ab aG h h'/\cI lK h.next h' L.v rl/\(∀x∈rl,gK ai x.2)/\rl.length=((ps.take j).filter (mo ats)).length
theorem Eo (ok:bu h) {n dA d8 c8 k ai sA s8 o8:Nat} {wk A:SV} {ps:List Int} {row:List (Bool×Int)} (hn:n<=1000) (hA:h.tr.get dA=some (.aA (bp.flat ats) false 0 sA)) (C0:ats.length=n) (h8:h.tr.get d8=some (.aA (rS.flat ws) false o8 s8)) (hws:ws[k]? =some wk) (Ec:k<n)
  (gM:SliceR nR 1 h wk.v ps) (Ha: ∀p∈ps,0<=p/\p<n) (vb:SliceR vR 2 h A.v row) (hv: ∀v∈row,gK ai v) (hl:row.length=ps.length) (va:ps.length<1000000)
  {e:Env} {Q:aP->Env->ae->Prop} (f5:Env.get e 5= .slice (some ⟨dA,0,none⟩) n n) (f8:Env.get e 8= .slice (some ⟨d8,0,none⟩) n c8) (f11:Env.get e 11= .int .i64 k) (f15:Env.get e 15=fI.v) (f62:Env.get e 62=A.v) (f63:Env.get e 63= .int .i64 row.length) (f64:Env.get e 64= .int .i64 0)
  (C: ∀e' h' L rl,ab aG h h'->aw [15,16,17,18,64,65,66,67,68,69,70,71,72,73,74,75,76,77,78,79,80,81,82,83,84,85,86,87] e e'->Env.get e' 15=SV.v L->cI lK h.next h' (SV.v L) rl->(∀x∈rl,gK ai x.2)->rl.length=(ps.filter (mo ats)).length->Q (.exit 6) e' h'):
  aB FF (.loop nQ) e h Q:=by
 have vE:=SliceR.len vb;have JT:=SliceR.len gM;refine aB.loop (akz h ats ps row ai e) ?_ (n:=row.length) ⟨0,fI,[],rfl,by omega,aw.refl _ _,f64,f15,.refl ok,.inl ⟨rfl,rfl⟩,fun x hx=>by simp at hx,by simp⟩;rintro m e' h' ⟨j,L,rl,rfl,hj,K,Sg,Az,g,uh,Ze,uJ⟩;have q5:=K.at f5;have q8:=K.at f8;have mE:=K.at f11;have Sf:=K.at f62;have q63:=K.at f63;unfold nQ;by_cases aS:j<row.length
 .have wj:=wrap_i64 ((j:Int)+1) (by omega) (by omega);have hx:row[j]? =some row[j]:=aX aS;have hm:=zk aS;generalize row[j]=v at hx hm;have hp:ps[j]? =some (ps[j]'(by omega)):=aX (by omega);have JR:=zk (l:=ps) (n:=j) (by omega);generalize ps[j]'(by omega)=a at hp JR;obtain⟨ha0,Bj⟩:=Ha a JR;obtain⟨u,rfl⟩: ∃u:Nat,a=u:=⟨a.toNat,by omega⟩;have C6:u<n:=by omega
  obtain⟨b1,EF,c1,CK,_,_,rfl,o1,qL⟩:=SliceR.later ok vb hx;obtain⟨b2,Ot,c2,hwa,_,_,rfl,o2,xZ⟩:=SliceR.later ok gM hp;have r1:=qL h' g 0 2 (by decide);have r2:=xZ h' g 0 1 (by decide);have hA':=g.get ok hA (fun h=>h);have h8':=g.get ok h8 (fun h=>h);obtain⟨t,ht⟩: ∃t,ats[u]? =some t:=⟨_,aX (by omega)⟩;have rt:=kj hA' ht;have rw8:=ze h8' hws;have hjp:j<ps.length:=by omega
  have ob1:=g.bA o1;have ob2:=g.bA o2;have oA:=g.ok.bA hA';have o8:=g.ok.bA h8';simp[-ag] at r1 r2 rw8;rw[hwa,JT] at rw8;simp at Sf Az;rw[CK,vE] at Sf;have Hb:(ps.take (j+1)).filter (mo ats)=(ps.take j).filter (mo ats)++(if mo ats u then [(u:Int)] else []):=by rw[yn,hp,List.filter_append];cases hq:mo ats u<;>simp[hq]
  have hkt:mo ats u=decide (0<=t):=by simp[mo,ht]
  by_cases Tq:0<=t
  .simp[q5,q8,mE,Az,Sf,q63,Sg,aS,r1,r2,rw8,rt,Ec,C6,hjp,Tq,-ag,av,bg,aI,ob1,ob2,oA,o8];have gv:ab aG h' (put (aL h' [.bool false,.int .i64 0] 0) h'.next 0 [.bool false,.int .i64 0] [.bool v.1,.int .i64 v.2] 0):=(ab.refl g.ok).var _ _;obtain⟨h2,e2⟩: ∃h2,h2=put (aL h' [.bool false,.int .i64 0] 0) h'.next 0 [.bool false,.int .i64 0] [.bool v.1,.int .i64 v.2] 0:=⟨_,rfl⟩;have NU:h2.next=h'.next+1:=by rw[e2];rfl
   rw[<-e2] at gv ⊢;have g2:=g.trans gv;have g3:=aO g2.ok (lK.enc (t,v)) 0;simp only[Uv] at g3;have JO:=(uh.grow g.ok gv (fun _ _ h=>h)).grow g2.ok g3 (fun _ _ h=>h);have hw3:bk lK (aL h2 [.int .i64 t,.bool v.1,.int .i64 v.2] 0) (.slice (some ⟨h2.next,0,none⟩) 1 1) [(t,v)]:=⟨_,_,rfl,.inr ⟨h2.next,0,_,_,_,_,rfl,cx _ _ _,by simp,by simp⟩⟩;have acZ:rl.length<=j:=by rw[uJ];exact ug (QT _ _) (by simp;omega)
   have ln:=g2.next;obtain⟨v',h5,ha5,yo,g5,MB⟩:=pY (bytes:=24) g3.ok (z:=[.int .i64 0,.bool false,.int .i64 0]) rfl JO hw3 (by omega) (by decide) (by simp;omega);rw[NU] at ha5;refine kE ha5 ?_;obtain⟨V,rfl⟩:=cI.sv' yo;have lo: ∀b,ax L.v b->h.next<=b:=fun b hb=>uh.of hb;simp[Sg,wj];refine⟨row.length-(j+1),by omega,j+1,V,rl++[(t,v)],rfl,by omega,?_,by simp,by simp,(g2.trans g3).trans' g5 (fun _ _ h=>h) (fun x hx e=>by have:=lo x e;omega),yo,fun x hx=> ?_,?_⟩
   .repeat (refine aw.set ?_)
    exact K
   .rcases tO.1 hx with h1|h1
    .exact Ze x h1
    .simp at h1;subst h1;exact hv v hm
   .rw[Hb,hkt];simp[Tq,uJ]
  .simp[q5,q8,mE,Az,Sf,q63,Sg,aS,r1,r2,rw8,rt,Ec,C6,hjp,Tq,wj,-ag,av,bg,aI,ob1,ob2,oA,o8];refine⟨row.length-(j+1),by omega,j+1,L,rl,rfl,by omega,?_,by simp,by simp[Az],g.trans ((ab.refl g.ok).var _ _),uh.grow g.ok ((ab.refl g.ok).var _ _) (fun _ _ h=>h),Ze,?_⟩
   .repeat (refine aw.set ?_)
    exact K
   .rw[Hb,hkt];simp[Tq,uJ]
 .have:j=row.length:=by omega
  subst this;rw[hl,xV] at uJ;simp[q63,Sg];exact C _ _ L rl g (K.set) (by simp[Az]) uh Ze uJ
def aky (h:ae) (P:SV) (qs:List (Int×SV)) (i ai n X sX:Nat) (xc:List Value) (dst:Int) (e:Env) (m:Nat) (e':Env) (h':ae):Prop:=
 ∃(j:Nat) (F:SV) (vl:List (Bool×Int)),m=n-j/\j<=n/\aw [20,97,98,99,100,101,102,103,104,105,106,107,108,109,110,111,112,113,114,115,116] e e'/\Env.get e' 97= .int .i64 j/\ab (ax P.v) h h'/\h'.tr.get X=some (.aA xc false 0 sX)/\e_ jR h' P (qs.set i (dst,F))/\cI cr h.next h' F.v vl/\vl.length=j/\ ∀v∈vl,gK ai v
theorem Rw (ok:bu h) {i ai X sX d n sd:Nat} {dst:Int} {q0:Int×SV} {xs:List (Int×(Bool×Int))} (hP:e_ jR h P (qs.set i (dst,fI))) (hq:qs[i]? =some q0) (hX:h.tr.get X=some (.aA [P.v,L.v,.int .i64 kind,.bool on.1,.int .i64 on.2,T.v] false 0 sX)) (hPX: ¬ax P.v X)
  (hd:h.tr.get d=some (.aA (lK.flat xs) false 3 sd)) (hPd: ¬ax P.v d) (hn:xs.length=n) (NU:n<1000000) (hv: ∀x∈xs,gK ai x.2)
  {e:Env} {Q:aP->Env->ae->Prop} (f12:Env.get e 12= .pointer (some ⟨X,0,none⟩)) (f13:Env.get e 13= .int .i64 i) (f95:Env.get e 95= .slice (some ⟨d,0,none⟩) n n) (f96:Env.get e 96= .int .i64 n) (f97:Env.get e 97= .int .i64 0)
  (C: ∀e' h' F vl,aw [20,97,98,99,100,101,102,103,104,105,106,107,108,109,110,111,112,113,114,115,116] e e'->ab (ax P.v) h h'->h'.tr.get X=some (.aA [P.v,L.v,.int .i64 kind,.bool on.1,.int .i64 on.2,T.v] false 0 sX)->e_ jR h' P (qs.set i (dst,F))->cI cr h.next h' (SV.v F) vl->vl.length=n->(∀v∈vl,gK ai v)->Q (.exit 8) e' h'):
  aB FF (.loop kG) e h Q:=by
 have ff:=(bY.mp hq).1;refine aB.loop (aky h P qs i ai n X sX [P.v,L.v,.int .i64 kind,.bool on.1,.int .i64 on.2,T.v] dst e) ?_ (n:=n) ⟨0,fI,[],rfl,by omega,aw.refl _ _,f97,.refl ok,hX,hP,.inl ⟨rfl,rfl⟩,rfl,fun v hv=>by simp at hv⟩;rintro m e' h' ⟨j,F,vl,rfl,hj,K,q97,g,lM,My,hA,Hc,xp⟩;have kg:=K.at f12;have WJ:=K.at f13;have q95:=K.at f95;have q96:=K.at f96;have bX:=g.ok;unfold kG;by_cases aS:j<n
 .have wj:=wrap_i64 ((j:Int)+1) (by omega) (by omega);obtain⟨x,hx⟩: ∃x,xs[j]? =some x:=⟨_,aX (by omega)⟩;have XT:=g.get ok hd hPd;have rx:=bI XT hx;have hqi:(qs.set i (dst,F))[i]? =some (dst,F):=by rw[eR,aU rfl,aU ff]
  obtain⟨b,cs,o,s,oZ,hb,hiA,eH,dy,fH⟩:=My.el hqi;have r1:=dy 1 1 (by decide);simp[-ag] at r1;have jl:=My.len;simp at jl;have dS:=lM;simp at dS;rw[oZ,jl] at dS;have oX:=bX.bA lM;have ob:=bX.bA hb;have od:=bX.bA XT;have Ei:=bX.st _ _ _ _ _ lM;have nX: ¬X=b:=fun e=>hPX (e▸bU oZ);have hif:i<qs.length:=ff;simp[kg,WJ,q95,q96,q97,aS,rx,r1,hif,-ag,av,bg,aI,d_,oX,ob,od,aq dS,ay];obtain⟨h2,e2⟩: ∃h2,h2=tick (put (aL h' [.int .i64 0,.bool false,.int .i64 0] 0) h'.next 0 [.int .i64 0,.bool false,.int .i64 0] [.int .i64 x.1,.bool x.2.1,.int .i64 x.2.2] 0):=⟨_,rfl⟩;have gv:ab aG h' h2:=by rw[e2];exact((ab.refl bX).var _ _).tick
  have anE:h2.next=h'.next+1:=by rw[e2];rfl
  rw[<-e2];have g3:=aO gv.ok (cr.enc x.2) 0;simp only[ue] at g3;have JO:=(hA.grow bX gv (fun _ _ h=>h)).grow gv.ok g3 (fun _ _ h=>h);have hw3:bk cr (aL h2 [.bool x.2.1,.int .i64 x.2.2] 0) (.slice (some ⟨h2.next,0,none⟩) 1 1) [x.2]:=⟨_,_,rfl,.inr ⟨h2.next,0,_,_,_,_,rfl,cx _ _ _,by simp,by simp⟩⟩;have ln:=g.next;obtain⟨v',h5,ha5,yo,g5,MB⟩:=pY (bytes:=16) g3.ok (z:=[.bool false,.int .i64 0]) rfl JO hw3 (by omega) (by decide) (by simp;omega);rw[anE] at ha5;refine ED ha5 ?_;obtain⟨V,rfl⟩:=cI.sv' yo;have lo: ∀y,ax F.v y->h.next<=y:=fun y hy=>hA.of hy;have lb:b<h.next:=by have:=hP.bA ok (bU oZ);exact this
  have lX:X<h.next:=ok.wf _ _ hX;have rV:=g5.get g3.ok (g3.get gv.ok (gv.get bX lM (fun h=>h)) (fun h=>h)) (fun h=>by have:=lo X h;omega);have YV:=g5.get g3.ok (g3.get gv.ok (gv.get bX hb (fun h=>h)) (fun h=>h)) (fun h=>by have:=lo b h;omega);simp at rV;rw[oZ,jl] at rV;have Vy:sX<=h'.clock+1:=by omega
  have hf:=eH 1 1 (by decide);simp at hf;simp[rV,Vy,hif,YV,hf,q97,wj];have gw:ab (· =b) h5 (put h5 b (i*2+1) cs [.slice V.a V.l V.c] o):=aM g5.ok YV;have hPf:=fH (dst,V) 1 [V.v] (by simp) rfl (put h5 b (i*2+1) cs [.slice V.a V.l V.c] o) ⟨_,aD _ _ _ _ _ _⟩;rw[List.set_set] at hPf;have g15:ab (ax P.v) h h5:=((g.trans gv.bt).trans g3.bt).trans' g5 (fun _ _ h=>h) (fun y hy e=>by have:=lo y e;omega);have lV: ∀y,ax V.v y->h.next<=y:=fun y hy=>by have:=MB y hy;simp at this;omega
  refine⟨n-(j+1),by omega,j+1,V,vl++[x.2],rfl,by omega,?_,by simp,g15.trans (gw.bJ (fun y _ e=>e▸bU oZ)),?_,hPf,yo.grow g5.ok gw (fun y hy e=>by have:=lV y hy;omega),by simp[Hc],fun v IZ=> ?_⟩
  .repeat (refine aw.set ?_)
   exact K
  .have:=gw.get g5.ok rV nX;simpa [oZ,jl] using this
  .rcases tO.1 IZ with h1|h1
   .exact xp v h1
   .simp at h1;subst h1;exact hv x (dk hx)
 .have:j=n:=by omega
  subst this;simp[q96,q97];exact C _ _ F vl (K.set) g lM My hA Hc xp
def Ext (κ cap κ' iK:Nat->Nat):Prop:= ∀b,κ b≠0->κ' b=κ b/\iK b=cap b
theorem Ext.refl (κ cap:Nat->Nat):Ext κ cap κ cap:=fun _ _=>⟨rfl,rfl⟩
theorem Ext.trans {κ cap κ1 xT κ2 Kl:Nat->Nat} (a:Ext κ cap κ1 xT) (b:Ext κ1 xT κ2 Kl):Ext κ cap κ2 Kl:=fun x hx=>by obtain⟨h1,h2⟩:=a x hx;obtain⟨h3,h4⟩:=b x (by omega);exact⟨by omega,by omega⟩
theorem VA.ext {κ cap κ' iK:Nat->Nat} (w:VA κ cap A) (e:Ext κ cap κ' iK):VA κ' iK A:=w.congr (fun b hb=>by have:=e b (by omega);omega)
section
variable {h h':ae} {n0 ai:Nat} {κ cap:Nat->Nat} {rs:List XR}
theorem cq.alo (w0:cq h n0 ai κ cap rs) (hn:n0<=h.next) (w:cq h' n0 ai κ cap rs) (ok:bu h') {vl:List (Bool×Int)} (hA:cI cr h.next h' F.v vl) (hv: ∀v∈vl,gK ai v):
  ∃κ' iK,cq h' n0 ai κ' iK rs/\VA κ' iK F/\Ext κ cap κ' iK/\F.l=vl.length/\ ∀b,b<h.next->κ' b=κ b:=by
 rcases hA with⟨rfl,e⟩|⟨b,s,e,hb,hx,iz⟩
 .simp at e;exact⟨κ,cap,w,⟨by omega,.inl ⟨e.1,e.2.2⟩⟩,Ext.refl _ _,by simp[e.2.1],fun _ _=>rfl⟩
 .simp at e;have PU:κ b=0:=by
   rcases tP (κ b) with h|h
   .exact h
   .have:=(w0.new b (by omega)).2;omega
  have ne: ∀b',κ b'≠0->b≠b':=fun b' iy e=>iy (e▸PU);have ext:Ext κ cap (CB κ F 1) (CB cap F vl.length):=fun b' iy=>⟨kJ e.1 (ne b' iy),kJ e.1 (ne b' iy)⟩;refine⟨CB κ F 1,CB cap F vl.length,⟨fun i r hr=>(w.r i r hr).congr ext,w.dP,w.dL,w.dT,fun b' iy=> ?_,fun b' iy=> ?_⟩,⟨by omega,.inr ⟨b,e.1,pZ e.1,by rw[pZ e.1,e.2.2]⟩⟩,ext,e.2.1,fun b' iy=>kJ e.1 (by omega)⟩
  .by_cases e1:b=b'
   .subst e1;exact⟨vl,_,s,hb,.inr rfl,by rw[pZ e.1],hv⟩
   .rw[kJ e.1 e1] at iy ⊢;exact w.V b' iy
  .by_cases e1:b=b'
   .subst e1;exact⟨by omega,ok.wf _ _ hb⟩
   .rw[kJ e.1 e1] at iy;exact w.new b' iy
def Zz (r:XR):XR:= { r with P:=fI,ps:=[] }
theorem cq.drop (w:cq h n0 ai κ cap rs) (hr:rs[i]? =some r):cq h n0 ai κ cap (rs.set i (Zz r)):=by
 have hi:=(bY.mp hr).1;have R:=w.r i r hr;refine⟨fun j x hx=> ?_,?_,eL (f:=(·.L)) hr w.dL rfl,eL (f:=(·.T)) hr w.dT rfl,w.V,w.new⟩
 .rw[eR] at hx;by_cases e1:i=j
  .rw[aU e1,aU hi] at hx;cases hx;exact⟨e_.nil _ _,R.L,R.T,fun b hb=>(fW rfl hb).elim,R.kL,R.kT,fun p hp=>(CH hp).elim,R.ls,R.on⟩
  .rw[aT e1] at hx;exact w.r j x hx
 .intro i' j ri rj b h1 h2 hn hb dq;rw[eR] at h1 h2;by_cases e1:i=i'
  .rw[aU e1,aU hi] at h1;cases h1;exact fW rfl hb
  .rw[aT e1] at h1;by_cases e2:i=j
   .rw[aU e2,aU hi] at h2;cases h2;exact fW rfl dq
   .rw[aT e2] at h2;exact w.dP i' j ri rj b h1 h2 hn hb dq
theorem cq.aaB (w:cq h n0 ai κ cap rs) (ok:bu h) (g:ab (ax P.v) h h') (hk: ∀b,ax P.v b->κ b=3) (hd: ∀(i:Nat) (r:XR),rs[i]? =some r-> ∀b,ax P.v b-> ¬ax r.P.v b):cq h' n0 ai κ cap rs:=by refine⟨fun i r hr=>(w.r i r hr).grow ok g (fun b hb=>⟨hd i r hr b hb,fun h=>by have:=hk b hb;have:=(w.r i r hr).kL b h;omega,fun h=>by have:=hk b hb;have:=(w.r i r hr).kT b h;omega⟩),w.dP,w.dL,w.dT,w.V.grow ok g (fun b hb=>by have:=hk b hb;omega),fun b hb=>by have:=w.new b hb;have:=g.next;omega⟩
theorem cq.ao6 {ps:List (Int×SV)} (w:cq h n0 ai κ cap rs) (hr:rs[i]? =some r) (hP:e_ jR h P ps) (hk: ∀b,ax P.v b->κ b=3) (hd: ∀(j:Nat) (r:XR),rs[j]? =some r->i≠j-> ∀b,ax P.v b-> ¬ax r.P.v b) (gM: ∀p∈ps,(0<=p.1/\p.1<ai)/\VA κ cap p.2):
  cq h n0 ai κ cap (rs.set i { r with P:=P,ps:=ps }):=by
 have hi:=(bY.mp hr).1;have R:=w.r i r hr;refine⟨fun j x hx=> ?_,?_,eL (f:=(·.L)) hr w.dL rfl,eL (f:=(·.T)) hr w.dT rfl,w.V,w.new⟩
 .rw[eR] at hx;by_cases e1:i=j
  .rw[aU e1,aU hi] at hx;cases hx;exact⟨hP,R.L,R.T,hk,R.kL,R.kT,gM,R.ls,R.on⟩
  .rw[aT e1] at hx;exact w.r j x hx
 .intro i' j ri rj b h1 h2 hn hb dq;rw[eR] at h1 h2;by_cases e1:i=i'
  .rw[aU e1,aU hi] at h1;cases h1;rw[aT (by omega)] at h2;exact hd j rj h2 (by omega) b hb dq
  .rw[aT e1] at h1;by_cases e2:i=j
   .rw[aU e2,aU hi] at h2;cases h2;exact hd i' ri h1 e1 b dq hb
   .rw[aT e2] at h2;exact w.dP i' j ri rj b h1 h2 hn hb dq
end
structure KB (h1:ae) (κ0:Nat->Nat) (n dA d8 n8:Nat) (ats:List Int) (ws:List SV) (ah:List (List Int)):Prop where
 nn:n<=1000
 hA: ∃s,h1.tr.get dA=some (.aA (bp.flat ats) false 0 s)
 al:ats.length=n
 acc:jm bp n8 h1 d8 ws ah
 κA:κ0 dA=0
 low: ∀b,κ0 b≠0->b<n8
 rows:A0 n ah
 short: ∀ps∈ah,ps.length<50
theorem KB.at {h1 h':ae} {n dA d8 n8:Nat} (k:KB h1 κ0 n dA d8 n8 ats ws ah) (ok:bu h1) (g:ab (fun b=>κ0 b≠0) h1 h'):KB h' κ0 n dA d8 n8 ats ws ah:=by obtain⟨s,hA⟩:=k.hA;exact⟨k.nn,⟨s,g.get ok hA (fun h=>h k.κA)⟩,k.al,k.acc.grow ok g (fun b hb h=>by have:=k.low b h;omega),k.κA,k.low,k.rows,k.short⟩
def Pn (κ cap:Nat->Nat) (m:Nat) (q p:Int×SV):Prop:=q.1=p.1/\VA κ cap q.2/\q.2.l=m
def I5:ak:=(G_ [f_ 90 0 12,l_ 91 90,m_ 92 13,a_ 93 2 91 92,f_ 94 1 93,u_ (.store 1 (t_ 94) (.const (.slice none 0 0)))] (G_ [m_ 95 15,z_ 96 95,k_ 97 0] (Q_ 8 kG)))
theorem Ry:tI=G_ [B_ 57 .lss 56 55] (J_ (H_ 57 4) (J_ (P_ 5 (G_ [m_ 58 56,a_ 59 2 54 56,L_ 60 2 59,o_ 14 (.alloc [(.int .i64 0),(.slice none 0 0)]),m_ 13 58,s_ 2 14 60] (G_ [o_ 15 (.mv (.const (.slice none 0 0)))] (J_ (G_ [f_ 61 1 14,l_ 62 61,z_ 63 62,k_ 64 0] (Q_ 6 nQ)) (G_ [m_ 88 15,F_ 89 197 [t_ 88,(.func 198)]] I5))))) (O_ [C_ 117 .add 56 1,m_ 56 117]))):=rfl
def KpT:List Nat:=[20,90,91,92,93,94,95,96,97,98,99,100,101,102,103,104,105,106,107,108,109,110,111,112,113,114,115,116]
theorem Zq (ok:bu h) {n0 ai X sX j n:Nat} {rsD:List XR} {Lr:SV} {xs:List (Int×(Bool×Int))} (O:cq h n0 ai κ cap rsD) (um:n0<=h.next) (hP:e_ jR h P qs) (hq:qs[j]? =some q) (hX:h.tr.get X=some (.aA [P.v,L.v,.int .i64 kind,.bool on.1,.int .i64 on.2,T.v] false 0 sX)) (hPX: ¬ax P.v X)
  (hPκ: ∀b,ax P.v b->κ b=3) (hdP: ∀(i:Nat) (x:XR),rsD[i]? =some x-> ∀b,ax P.v b-> ¬ax x.P.v b) (hL:Lr.v= .slice none 0 0/\xs=[]\/ ∃d sd,Lr.v= .slice (some ⟨d,0,none⟩) xs.length xs.length/\h.tr.get d=some (.aA (lK.flat xs) false 3 sd)/\ ¬ax P.v d) (hv: ∀x∈xs,gK ai x.2) (hn:xs.length=n) (NU:n<1000000)
  {e:Env} {Q:aP->Env->ae->Prop} (f12:Env.get e 12= .pointer (some ⟨X,0,none⟩)) (f13:Env.get e 13= .int .i64 j) (f15:Env.get e 15=Lr.v)
  (C: ∀e' h' κ' iK F,aw KpT e e'->ab (ax P.v) h h'->h'.tr.get X=some (.aA [P.v,L.v,.int .i64 kind,.bool on.1,.int .i64 on.2,T.v] false 0 sX)->Ext κ cap κ' iK->(∀b,b<h.next->κ' b=κ b)->cq h' n0 ai κ' iK rsD->e_ jR h' P (qs.set j (q.1,F))->VA κ' iK F->F.l=n->Q .normal e' h'):aB FF I5 e h Q:=by
 have aS:=(bY.mp hq).1;obtain⟨b,cs,o,s,oZ,hb,YY,eH,dy,fH⟩:=hP.el hq;have jl:=hP.len;have dS:=hX;simp at dS;rw[oZ,jl] at dS;have hf:=eH 1 1 (by decide);simp at hf;have gw:ab (· =b) h (put h b (j*2+1) cs [.slice none 0 0] o):=aM ok hb;have gP:ab (ax P.v) h (put h b (j*2+1) cs [.slice none 0 0] o):=gw.bJ (fun x _ e=>e▸bU oZ);have hP5:=fH (q.1,fI) 1 [.slice none 0 0] (by simp) rfl (put h b (j*2+1) cs [.slice none 0 0] o) ⟨_,aD _ _ _ _ _ _⟩;have O5:=O.aaB ok gP hPκ hdP;have rV:=gP.get ok hX hPX;unfold I5;rcases hL with⟨e1,rfl⟩|⟨d,sd,e1,hd,hPd⟩
 .rw[e1] at f15;simp at hn;simp[f12,f13,f15,dS,aS,hb,hf];rw[nJ];unfold kG;simp;refine C _ _ κ cap fI ?_ gP rV (Ext.refl _ _) (fun _ _=>rfl) O5 hP5 ⟨dK _,.inl ⟨rfl,rfl⟩⟩ hn
  repeat (refine aw.set ?_)
  exact aw.refl _ _
 .rw[e1,hn] at f15;have MB:=gP.get ok hd hPd;simp[f12,f13,f15,dS,aS,hb,hf];refine Rw gP.ok (ai:=ai) (q0:=q) hP5 hq rV hPX MB hPd hn NU hv (by simp[f12]) (by simp[f13]) (by simp) (by simp) (by simp) ?_;intro e6 h6 F vl K6 g6 yp hP6 YK Hc xp;have O6:=O5.aaB gP.ok g6 hPκ hdP;obtain⟨κ',iK,O7,YU,E7,pJ,iM⟩:=O5.alo (by have:=gP.next;omega) O6 g6.ok YK xp;simp;refine C _ _ κ' iK F (aw.trans ?_ (K6.bJ)) (gP.trans g6) yp E7 (fun b hb=>iM b hb) O7 hP6 YU (by omega)
  repeat (refine aw.set ?_)
  exact aw.refl _ _
def KpL:List Nat:=[13,14,15,16,17,18,20,56,57,58,59,60,61,62,63,64,65,66,67,68,69,70,71,72,73,74,75,76,77,78,79,80,81,82,83,84,85,86,87,88,89,90,91,92,93,94,95,96,97,98,99,100,101,102,103,104,105,106,107,108,109,110,111,112,113,114,115,116,117]
def afe (hS:ae) (κ0 κ1 xT:Nat->Nat) (n0 ai X sX k m0:Nat) (r:XR) (rs:List XR) (xc:List Value) (e:Env) (m:Nat) (e':Env) (h':ae):Prop:=
 ∃(j:Nat) (κ cap:Nat->Nat) (qs:List (Int×SV)),m=r.ps.length-j/\j<=r.ps.length/\aw KpL e e'/\Env.get e' 56= .int .i64 j/\ab (fun b=>κ0 b=3) hS h'/\h'.tr.get X=some (.aA xc false 0 sX)/\Ext κ1 xT κ cap/\(∀b,b<hS.next->κ b=κ1 b)/\cq h' n0 ai κ cap (rs.set k (Zz r))/\e_ jR h' r.P qs/\qs.length=r.ps.length/\
  ∀(i:Nat) (q p:Int×SV),qs[i]? =some q->r.ps[i]? =some p->(i<j->Pn κ cap m0 q p)/\(j<=i->q=p)
theorem Rv {hS:ae} (okS:bu hS) {n dA d8 n8 n0 ai X sX k:Nat} (B:KB hS κ0 n dA d8 n8 ats ws ah) (hr:rs[k]? =some r) (O:cq hS n0 ai κ1 xT rs) (um:n0<=hS.next) (h01: ∀b,κ0 b≠0->κ1 b=κ0 b)
  (hP3: ∀b,ax r.P.v b->κ0 b=3) (hX:hS.tr.get X=some (.aA [r.P.v,r.L.v,.int .i64 r.kind,.bool r.on.1,.int .i64 r.on.2,r.T.v] false 0 sX)) (κX:κ0 X=0) {wk:SV} {pk:List Int} (MF:ws[k]? =some wk) (zo:ah[k]? =some pk) (gM: ∀p∈r.ps,p.2.l=pk.length) (va:r.ps.length<1000000) (Ec:k<n)
  {e:Env} {Q:aP->Env->ae->Prop} (f5:Env.get e 5= .slice (some ⟨dA,0,none⟩) n n) (f8:Env.get e 8= .slice (some ⟨d8,0,none⟩) n n) (f11:Env.get e 11= .int .i64 k) (f12:Env.get e 12= .pointer (some ⟨X,0,none⟩)) (f54:Env.get e 54=r.P.v) (f55:Env.get e 55= .int .i64 r.ps.length) (f56:Env.get e 56= .int .i64 0)
  (C: ∀e' h' κ cap qs,aw KpL e e'->ab (fun b=>κ0 b=3) hS h'->h'.tr.get X=some (.aA [r.P.v,r.L.v,.int .i64 r.kind,.bool r.on.1,.int .i64 r.on.2,r.T.v] false 0 sX)->Ext κ1 xT κ cap->(∀b,b<hS.next->κ b=κ1 b)->cq h' n0 ai κ cap (rs.set k { r with ps:=qs })->qs.length=r.ps.length->(∀(i:Nat) (q p:Int×SV),qs[i]? =some q->r.ps[i]? =some p->Pn κ cap (pk.filter (mo ats)).length q p)->Q (.exit 4) e' h'):
  aB FF (.loop tI) e hS Q:=by
 have qK:=(bY.mp hr).1;have R:=O.r k r hr;have jl:=R.P.len;have YP: ∀b,ax r.P.v b->κ1 b=3:=fun b hb=>by have:=hP3 b hb;rw[h01 b (by omega),this]
 have hdP: ∀(i:Nat) (x:XR),(rs.set k (Zz r))[i]? =some x-> ∀b,ax r.P.v b-> ¬ax x.P.v b:=by
  intro i x hx b hb;rw[eR] at hx;by_cases e1:k=i
  .rw[aU e1,aU qK] at hx;cases hx;exact fun h=>fW rfl h
  .rw[aT e1] at hx;exact O.dP k i r x b hr hx e1 hb
 refine aB.loop (afe hS κ0 κ1 xT n0 ai X sX k (pk.filter (mo ats)).length r rs [r.P.v,r.L.v,.int .i64 r.kind,.bool r.on.1,.int .i64 r.on.2,r.T.v] e) ?_ (n:=r.ps.length)
  ⟨0,κ1,xT,r.ps,rfl,by omega,aw.refl _ _,f56,.refl okS,hX,Ext.refl _ _,fun _ _=>rfl,O.drop hr,R.P,rfl,fun i q p h1 h2=>⟨fun h=>by omega,fun _=>by rw[h1] at h2;cases h2;rfl⟩⟩
 rintro m e' h' ⟨j,κ,cap,qs,rfl,hj,K,TD,g,lM,E1,aaP,O',My,K0,H⟩;have bX:=g.ok;have q5:=K.at f5;have q8:=K.at f8;have mE:=K.at f11;have kg:=K.at f12;have Se:=K.at f54;have MJ:=K.at f55;have hPκ: ∀b,ax r.P.v b->κ b=3:=fun b hb=>by have:=YP b hb;rw[(E1 b (by omega)).1,this]
 have B':=B.at okS (g.bJ (fun x _ h=>by show κ0 x≠0;omega));rw[Ry];by_cases aS:j<r.ps.length
 .have wj:=wrap_i64 ((j:Int)+1) (by omega) (by omega);obtain⟨p,hp⟩: ∃p,r.ps[j]? =some p:=⟨_,aX aS⟩;obtain⟨q,hq⟩: ∃q,qs[j]? =some q:=⟨_,aX (by omega)⟩;have eqp:=(H j q p hq hp).2 (dK _);subst eqp;have K9:=dk hp;have hql2:=gM q K9;have YU:=(R.ps q K9).2.ext E1;obtain⟨row,vb,uJ,Ze⟩:=VA.row YU O'.V;obtain⟨b,cs,o,s,oZ,hb,YY,eH,dy,fH⟩:=My.el hq;have UX:=My.len;have r0:=dy 0 2 (by decide);simp[-ag] at r0;simp at Se;rw[oZ,UX,K0] at Se;simp[Se,MJ,TD,aS,r0,-ag,av];refine aB.cut (fun h1=>ab aG h' h1) ((ab.refl bX).var _ _) ?_;intro h2 g2;have B2:=B'.at bX (g2.bJ (fun _ _ h=>h.elim));obtain⟨sA,IJ⟩:=B2.hA;obtain⟨s8,h82⟩:=B2.acc.aA;have hpsl:=B.short pk (dk zo);refine Eo g2.ok (n:=n) (c8:=n) (k:=k) (A:=q.2) (ai:=ai) B.nn IJ B.al h82 MF Ec (HP B2.acc MF zo) ((B.rows.row k pk zo).2) (vb.mono bX g2 fun _ _ h=>h) Ze (by omega) (by omega) (by simp[q5]) (by simp[q8]) (by simp[mE]) (by simp[fI]) (by simp) (by simp[uJ]) (by simp) ?_;intro e3 h3 L rl g3 K3 k15 uh an3 hrll;have dh:ab aG h' h3:=g2.trans g3;have fK:=dh.get bX lM (fun h=>h);have Bk:=dh.get bX hb (fun h=>h);have O3:=O'.bt bX dh;have amj:=My.bt bX dh;have MI:=K3.at (t:=12) (by simp;exact kg);have V0:Env.get e3 13= .int .i64 j:=K3.at (t:=13) (by simp);have m56:=K3.at (t:=56) (by simp;exact TD);have K3':aw KpL e e3:=by
   refine aw.trans ?_ (K3.bJ)
   repeat (refine aw.set ?_)
   exact K
  have lP: ∀x,ax r.P.v x->x<h'.next:=fun x hx=>My.bA bX hx;have lb:=lP b (bU oZ);have lX:X<h'.next:=bX.wf _ _ lM;have nXb: ¬X=b:=fun e=>by have:=hP3 b (bU oZ);rw[e] at κX;omega
  have l3:=dh.next
  
  have behind: ∀(h4:ae) (xs:List (Int×(Bool×Int))),ab (fun x=>h'.next<=x) h3 h4->(∀x∈xs,gK ai x.2)->xs.length=rl.length->(L.v= .slice none 0 0/\xs=[]\/ ∃d sd,L.v= .slice (some ⟨d,0,none⟩) xs.length xs.length/\h4.tr.get d=some (.aA (lK.flat xs) false 3 sd)/\h'.next<=d)->
    cq h4 n0 ai κ cap (rs.set k (Zz r))/\e_ jR h4 r.P qs/\ab (fun b=>κ0 b=3) hS h4/\h4.tr.get X=some (.aA [r.P.v,r.L.v,.int .i64 r.kind,.bool r.on.1,.int .i64 r.on.2,r.T.v] false 0 sX)/\h4.tr.get b=some (.aA cs false o s):=by
   intro h4 xs g4 _ _ _;have hκ: ∀x,h'.next<=x->κ x=0:=fun x hx=>by
    rcases tP (κ x) with h|h
    .exact h
    .have:=(O'.new x (by omega)).2;omega
   refine⟨O3.grow dh.ok g4 (fun x hx=> .inl (hκ x hx)),amj.grow dh.ok g4 (fun x hx h=>by have:=lP x hx;omega),(g.trans (dh.bJ (fun _ _ h=>h.elim))).trans' g4 (fun _ _ h=>h) (fun x hx h=>by have:=g.next;omega),g4.get dh.ok fK (by omega),g4.get dh.ok Bk (by omega)⟩
  have post: ∀(h4:ae) (e4:Env) (xs:List (Int×(Bool×Int))) (Q2:aP->Env->ae->Prop),ab (fun x=>h'.next<=x) h3 h4->(∀x∈xs,gK ai x.2)->xs.length=rl.length->(L.v= .slice none 0 0/\xs=[]\/ ∃d sd,L.v= .slice (some ⟨d,0,none⟩) xs.length xs.length/\h4.tr.get d=some (.aA (lK.flat xs) false 3 sd)/\h'.next<=d)->
    Env.get e4 12= .pointer (some ⟨X,0,none⟩)->Env.get e4 13= .int .i64 j->Env.get e4 15=L.v->Env.get e4 56= .int .i64 j->aw KpL e e4->
    (∀e6 h6 κ6 wy Si,Env.get e6 56= .int .i64 j->aw KpL e e6->ab (fun b=>κ0 b=3) hS h6->h6.tr.get X=some (.aA [r.P.v,r.L.v,.int .i64 r.kind,.bool r.on.1,.int .i64 r.on.2,r.T.v] false 0 sX)->Ext κ1 xT κ6 wy->(∀b,b<hS.next->κ6 b=κ1 b)->cq h6 n0 ai κ6 wy (rs.set k (Zz r))->e_ jR h6 r.P Si->Si.length=r.ps.length->
     (∀(i:Nat) (q p:Int×SV),Si[i]? =some q->r.ps[i]? =some p->(i<j+1->Pn κ6 wy (pk.filter (mo ats)).length q p)/\(j+1<=i->q=p))->Q2 .normal e6 h6)->aB FF I5 e4 h4 Q2:=by
   intro h4 e4 xs Q2 g4 X6 uv hLx VP X7 aoq k56 K4 HQ;obtain⟨O4,XK,G4,tR,Gc⟩:=behind h4 xs g4 X6 uv hLx;refine Zq g4.ok (n:=xs.length) O4 (by have:=G4.next;omega) XK hq tR (fun h=>by have:=hP3 X h;omega) hPκ hdP (by
    rcases hLx with h|⟨d,sd,h1,h2,h3⟩
    .exact .inl h
    .exact .inr ⟨d,sd,h1,h2,fun h=>by have:=lP d h;omega⟩) X6 rfl (by have:=QT (mo ats) pk;omega) VP X7 aoq ?_
   intro e6 h6 κ6 wy F K6 g6 yp E6 ahg O6 hP6 hVF pJ;refine HQ e6 h6 κ6 wy (qs.set j (q.1,F)) (K6.at k56) (K4.trans (K6.bJ)) (G4.trans (g6.bJ (fun x _ h=>hP3 x h))) yp (E1.trans E6) (fun b hb=>by rw[ahg b (by have:=G4.next;omega),aaP b hb]) O6 hP6 (by simp[K0]) (fun i a c h1 h2=> ?_);rw[eR] at h1;by_cases ei:j=i
   .subst ei;rw[aU rfl,aU (by omega)] at h1;cases h1;rw[hp] at h2;cases h2;exact⟨fun _=>⟨rfl,hVF,by show F.l=_;omega⟩,fun h=>by omega⟩
   .rw[aT ei] at h1;obtain⟨a1,a2⟩:=H i a c h1 h2;refine⟨fun h=> ?_,fun h=>a2 (by omega)⟩;obtain⟨c1,c2,c3⟩:=a1 (by omega);exact⟨c1,c2.ext E6,c3⟩
  have fin: ∀(e6:Env) (h6:ae) (κ6 wy:Nat->Nat) (Si:List (Int×SV)),Env.get e6 56= .int .i64 j->aw KpL e e6->ab (fun b=>κ0 b=3) hS h6->h6.tr.get X=some (.aA [r.P.v,r.L.v,.int .i64 r.kind,.bool r.on.1,.int .i64 r.on.2,r.T.v] false 0 sX)->Ext κ1 xT κ6 wy->(∀b,b<hS.next->κ6 b=κ1 b)->cq h6 n0 ai κ6 wy (rs.set k (Zz r))->e_ jR h6 r.P Si->Si.length=r.ps.length->
    (∀(i:Nat) (q p:Int×SV),Si[i]? =some q->r.ps[i]? =some p->(i<j+1->Pn κ6 wy (pk.filter (mo ats)).length q p)/\(j+1<=i->q=p))-> ∃m,m<r.ps.length-j/\afe hS κ0 κ1 xT n0 ai X sX k (pk.filter (mo ats)).length r rs [r.P.v,r.L.v,.int .i64 r.kind,.bool r.on.1,.int .i64 r.on.2,r.T.v] e m (Tr.set (Tr.set e6 117 (.int .i64 ((j:Int)+1))) 56 (.int .i64 ((j:Int)+1))) h6:=by
   intro e6 h6 κ6 wy Si a1 a2 a3 a4 a5 a55 a6 a7 a8 a9;refine⟨r.ps.length-(j+1),by omega,j+1,κ6,wy,Si,rfl,aS,?_,by simp,a3,a4,a5,a55,a6,a7,a8,a9⟩;exact aw.set (aw.set a2)
  simp;rcases Z3 uh with⟨e1,rfl⟩|⟨d,sd,e1,hd,XV⟩
  .rw[e1] at k15;simp[k15];refine aE.call (V:=fun _ h4=>h4=h3) (by simpa using Xi h3 (.func (.func tF) #[] #[])) ?_;rintro v h4 rfl;simp;refine post h4 _ [] _ (.refl dh.ok) (fun x hx=>by simp at hx) rfl (.inl ⟨e1,rfl⟩) (by simp[MI]) (by simp[V0]) (by rw[e1];simp[k15]) (by simp[m56]) (aw.set (aw.set K3')) ?_;intro e6 h6 κ6 wy Si a1 a2 a3 a4 a5 a55 a6 a7 a8 a9;simp[a1,wj];exact fin e6 h6 κ6 wy Si a1 a2 a3 a4 a5 a55 a6 a7 a8 a9
  .rw[e1] at k15;have Vu:rl.length<50:=by have:=QT (mo ats) pk;omega
   simp[k15];refine aE.call (V:=fun _ h4=>SA (fun x=>gK ai x.2) d rl.length 3 h3 h4) (by simpa using SH (P:=fun x=>gK ai x.2) (d:=d) (n:=rl.length) (o:=3) (c:=rl.length) (h0:=h3) abM Vu (h:=h3) ⟨.refl dh.ok,rl,sd,hd,rfl,an3⟩) ?_;rintro v h4 ⟨g4,xs,sd4,hd4,uv,X6⟩;simp;refine post h4 _ xs _ (g4.bJ (fun x _ e=>by have:=g2.next;omega)) X6 uv (.inr ⟨d,sd4,by rw[uv];exact e1,hd4,by have:=g2.next;omega⟩) (by simp[MI]) (by simp[V0]) (by rw[e1];simp[k15]) (by simp[m56]) (aw.set (aw.set K3')) ?_;intro e6 h6 κ6 wy Si a1 a2 a3 a4 a5 a55 a6 a7 a8 a9;simp[a1,wj];exact fin e6 h6 κ6 wy Si a1 a2 a3 a4 a5 a55 a6 a7 a8 a9
 .have:j=r.ps.length:=by omega
  subst this;simp[MJ,TD];have O2:=O'.ao6 (i:=k) (r:=Zz r) (P:=r.P) (ps:=qs) (by rw[eR,aU rfl,aU qK]) My hPκ (fun i x hx cJ b hb=>hdP i x hx b hb) (fun q hq=>by obtain⟨i,hi⟩:=rT hq;have ff:=(bY.mp hi).1;have XY:r.ps[i]? =some (r.ps[i]'(by omega)):=aX (by omega);obtain⟨a1,a2,_⟩:=(H i q _ hi XY).1 (by omega);have:=(R.ps _ (dk XY)).1;exact⟨by rw[a1];exact this,a2⟩)
  rw[List.set_set] at O2;exact C _ _ κ cap qs (K.set) g lM E1 aaP O2 K0 (fun i q p h1 h2=>(H i q p h1 h2).1 (bY.mp h2).1)
def akB (h:ae) (n:Nat) (aK:List Nat) (d4:Nat) (e:Env) (m:Nat) (e':Env) (h2:ae):Prop:=
 ∃(j:Nat) (pV:List Int),m=aK.length-j/\j<=aK.length/\Env.get e' 30= .int .i64 j/\aw [30,6,7,31,32,33,34,35,36,37,38,39] e e'/\ab (· =d4) h h2/\(∃s,h2.tr.get d4=some (.aA (bp.flat pV) false 0 s))/\pV.length=n/\(∀i x:Nat,i<j->aK[i]? =some x->pV[x]? =some (i:Int))/\ ∀x,x<n->x∉aK.take j->pV[x]? =some (-1)
theorem Zn (ok:bu h) (nd:aK.Nodup) (ef: ∀x∈aK,x<n) (hr:aK.length<=n) (hn:n<=1000) {d4 s4:Nat} (hO:bk bp h O.v (nI aK)) (hOd: ∀b,ax O.v b->aK≠[]->b≠d4) (hA:h.tr.get d4=some (.aA (bp.flat (List.replicate n (-1:Int))) false 0 s4))
  {e:Env} {Q:aP->Env->ae->Prop} (f5:Env.get e 5= .slice (some ⟨d4,0,none⟩) n n) (f28:Env.get e 28=O.v) (f29:Env.get e 29= .int .i64 aK.length) (f30:Env.get e 30= .int .i64 0)
  (C: ∀e' h' LH,aw [30,6,7,31,32,33,34,35,36,37,38,39] e e'->ab (· =d4) h h'->(∃s,h'.tr.get d4=some (.aA (bp.flat LH) false 0 s))->LH.length=n->(∀i x:Nat,aK[i]? =some x->LH[x]? =some (i:Int))->(∀x,x<n->x∉aK->LH[x]? =some (-1))->Q (.exit 0) e' h'):
  aB FF (.loop tK) e h Q:=by
 have XJ:O.l=aK.length:=by obtain⟨a,cap,e,_⟩:=hO;simp[nI] at e;exact e.2.1
 refine aB.loop (akB h n aK d4 e) ?_ (n:=aK.length) ⟨0,_,rfl,by omega,f30,aw.refl _ _,.refl ok,⟨s4,hA⟩,by simp,fun i x h=>by omega,fun x hx _=>by rw[UH,aU hx]⟩;rintro m e' h2 ⟨j,pl,rfl,hj,TB,K,g2,⟨s,IJ⟩,va,BY,Vk⟩;have q5:=K.at f5;have HB:=K.at f28;have q29:=K.at f29;unfold tK;by_cases aS:j<aK.length
 .obtain⟨x,hx⟩: ∃x,aK[j]? =some x:=⟨_,aX aS⟩;have He:=ef x (dk hx);have hO2:=Di hO ok g2 (fun cJ b hb=>hOd b hb (fun e=>cJ (by rw[e];rfl)));obtain⟨bO,aoT,alD,hOv,_,_,dy⟩:=hO2.read (P7 hx);have ro:=dy 0 1 (by decide);simp[-ag,nI] at ro hOv;have wj:=wrap_i64 ((j:Int)+1) (by omega) (by omega);have uv:x+1<=pl.length:=by omega
  simp at HB;rw[hOv.1,XJ] at HB;simp[q5,HB,q29,TB,aS,ro,He,IJ,uv,wj,-ag];have inj: ∀i,aK[i]? =some x->i=j:=fun i hi=>by have h1:=(bY.mp hi).2;have h2:=(bY.mp hx).2;exact(List.getElem_inj nd).1 (h1.trans h2.symm)
  refine⟨aK.length-(j+1),by omega,j+1,pl.set x j,rfl,aS,by simp,?_,g2.trans (aM g2.ok IJ),⟨h2.clock,by rw[aD,oO pl x j (by omega)]⟩,by simp[va],fun i y hi hy=> ?_,fun y hy KY=> ?_⟩
  .repeat (refine aw.set ?_)
   exact K
  .rw[eR];by_cases e:x=y
   .subst e;rw[aU rfl,aU (by omega),inj i hy]
   .rw[aT e];by_cases e2:i=j
    .subst e2;rw[hx] at hy;cases hy;exact absurd rfl e
    .exact BY i y (by omega) hy
  .rw[yn,hx] at KY;rw[eR,aT (fun e=>KY (by simp[e]))];exact Vk y hy (fun h=>KY (List.mem_append_left _ h))
 .have:j=aK.length:=by omega
  subst this;rw[xV] at Vk;simp[q29,TB];exact C _ _ pl (K.set) g2 ⟨s,IJ⟩ va (fun i x hx=>BY i x (bY.mp hx).1 hx) Vk
def Gj (ats:List Int) (t:Int):Int:=(ats[t.toNat]?).getD (-1)
def KtL:List Nat:=[21,22,122,123,124,125,126,127,128,129,130,131,132,133,134,135,136]
def akx (h:ae) (n0 ai X sX k:Nat) (κ cap:Nat->Nat) (ats:List Int) (r:XR) (rs:List XR) (xc:List Value) (e:Env) (m:Nat) (e':Env) (h':ae):Prop:=
 ∃(j:Nat) (ts:List Int),m=r.ts.length-j/\j<=r.ts.length/\aw KtL e e'/\Env.get e' 122= .int .i64 j/\ab (ax r.T.v) h h'/\h'.tr.get X=some (.aA xc false 0 sX)/\cq h' n0 ai κ cap (rs.set k { r with ts:=ts })/\ts=(r.ts.take j).map (Gj ats)++r.ts.drop j
theorem Zo (ok:bu h) {n dA sA n0 ai X sX k:Nat} (hA:h.tr.get dA=some (.aA (bp.flat ats) false 0 sA)) (C0:ats.length=n) (hr:rs[k]? =some r) (O:cq h n0 ai κ cap rs) (nTA: ¬ax r.T.v dA) (Ej: ∀t∈r.ts,0<=t/\t<n) (pK:r.ts.length<1000000) (hn:n<1000000)
  (hX:h.tr.get X=some (.aA [r.P.v,r.L.v,.int .i64 r.kind,.bool r.on.1,.int .i64 r.on.2,r.T.v] false 0 sX)) (nTX: ¬ax r.T.v X)
  {e:Env} {Q:aP->Env->ae->Prop} (f5:Env.get e 5= .slice (some ⟨dA,0,none⟩) n n) (f12:Env.get e 12= .pointer (some ⟨X,0,none⟩)) (f120:Env.get e 120=r.T.v) (f121:Env.get e 121= .int .i64 r.ts.length) (f122:Env.get e 122= .int .i64 0)
  (C: ∀e' h',aw KtL e e'->ab (ax r.T.v) h h'->h'.tr.get X=some (.aA [r.P.v,r.L.v,.int .i64 r.kind,.bool r.on.1,.int .i64 r.on.2,r.T.v] false 0 sX)->cq h' n0 ai κ cap (rs.set k { r with ts:=r.ts.map (Gj ats) })->Q (.exit 10) e' h'):
  aB FF (.loop tH) e h Q:=by
 have qK:=(bY.mp hr).1;have R:=O.r k r hr;have tC:=R.T.len;have ahB:rs.set k { r with ts:=r.ts } =rs:=by
  refine zV fun i=> ?_;rw[eR];split
  .rename_i e;subst e;exact hr.symm
  .rfl
 refine aB.loop (akx h n0 ai X sX k κ cap ats r rs [r.P.v,r.L.v,.int .i64 r.kind,.bool r.on.1,.int .i64 r.on.2,r.T.v] e) ?_ (n:=r.ts.length) ⟨0,r.ts,rfl,by omega,aw.refl _ _,f122,.refl ok,hX,by rw[ahB];exact O,by simp⟩;rintro m e' h' ⟨j,ts,rfl,hj,K,aim,g,lM,O',jT⟩;have q5:=K.at f5;have kg:=K.at f12;have adT:=K.at f120;have ail:=K.at f121;have bX:=g.ok;unfold tH;by_cases aS:j<r.ts.length
 .have wj:=wrap_i64 ((j:Int)+1) (by omega) (by omega);have hx:r.ts[j]? =some r.ts[j]:=aX aS;have hm:=zk aS;generalize r.ts[j]=t at hx hm;obtain⟨Tq,htn⟩:=Ej t hm;obtain⟨u,rfl⟩: ∃u:Nat,t=u:=⟨t.toNat,by omega⟩;have C6:u<n:=by omega
  have hrk:(rs.set k { r with ts:=ts })[k]? =some { r with ts:=ts } :=by rw[eR,aU rfl,aU qK]
  have R':=O'.r k _ hrk;have hjt:((r.ts.take j).map (Gj ats)).length=j:=by simp;omega
  have an_:ts[j]? =some (u:Int):=by rw[jT,Mv (by omega),hjt,Nat.sub_self,List.getElem?_drop,ID,hx]
  obtain⟨b,cs,o,s,Bi,hb,YY,eH,dy,fH⟩:=R'.T.el an_;have amv:=R'.T.len;dsimp only at Bi amv YY;have r0:=dy 0 1 (by decide);simp[-ag] at r0;have hA':=g.get ok hA nTA;obtain⟨a,ha⟩: ∃a,ats[u]? =some a:=⟨_,aX (by omega)⟩;have ra:=kj hA' ha;have htl':ts.length=r.ts.length:=by omega
  have dS:=lM;simp at dS adT;rw[Bi,tC] at dS adT;have hf:=eH 0 1 (by decide);simp at hf;have hXn:=aq dS;simp[q5,kg,adT,ail,aim,aS,r0,dS,hXn,C6,ra,hb,hf,wj,ay,-ag];have hTb:ab (ax r.T.v) h' (put (tick h') b j cs [.int .i64 a] o):=by have gt:ab aG h' (tick h'):=(ab.refl bX).tick;exact gt.bt.trans ((aM gt.ok hb).bJ (fun x _ e=>e▸bU Bi))
  have agv:=fH a 0 [.int .i64 a] (by simp) rfl (put (tick h') b j cs [.int .i64 a] o) ⟨(tick h').clock,by have:=aD (tick h') b j cs [.int .i64 a] o;simpa using this⟩;have O2:=O'.apG bX hrk hTb agv rfl;rw[List.set_set] at O2;refine⟨r.ts.length-(j+1),by omega,j+1,ts.set j a,rfl,aS,?_,by simp,g.trans hTb,hTb.get bX lM nTX,O2,?_⟩
  .repeat (refine aw.set ?_)
   exact K
  .have hnt:Gj ats (u:Int)=a:=by simp[Gj,ha]
   rw[jT,List.set_append,aT (by omega),hjt,Nat.sub_self,yn,hx];have hd:r.ts.drop j=(u:Int)::r.ts.drop (j+1):=by rw[List.drop_eq_getElem_cons aS];have:=(bY.mp hx).2;rw[this]
   rw[hd,List.set_cons_zero];simp[hnt]
 .have:j=r.ts.length:=by omega
  subst this;rw[xV,List.drop_length,List.append_nil] at jT;rw[jT] at O';simp[ail,aim];exact C _ _ (K.set) g lM O'
theorem zQ {xs ys:List XR} (w:e_ fe h A xs) (hl:ys.length=xs.length) (he: ∀(i:Nat) (x y:XR),xs[i]? =some x->ys[i]? =some y->fe.enc y=fe.enc x):e_ fe h A ys:=by
 have hf: ∀bh,fe.flat (ys++bh)=fe.flat (xs++bh):=by
  intro bh;rw[fe.dO,fe.dO];congr 1;clear w;induction xs generalizing ys with
  |nil=>rw[KF hl]
  |cons x xs ih=>
   cases ys with
   |nil=>simp at hl
   |cons y ys=>
    rw[fe.eM,fe.eM,he 0 x y rfl rfl,ih (by simpa using hl) (fun i a b h1 h2=>he (i+1) a b h1 h2)]
 obtain⟨hA,w⟩:=w;refine⟨by omega,?_⟩;rcases w with⟨h1,h2,rfl⟩|⟨b,o,s,bh,h1,h2,h3,h4⟩
 .exact .inl ⟨h1,h2,KF hl⟩
 .exact .inr ⟨b,o,s,bh,h1,by omega,by rw[hf];exact h3,h4⟩
structure KR (ats:List Int) (pk:List Int) (r r':XR):Prop where
 P:r'.P=r.P
 L:r'.L=r.L
 T:r'.T=r.T
 kind:r'.kind=r.kind
 on:r'.on=r.on
 ls:r'.ls=r.ls
 ts:r'.ts=r.ts.map (Gj ats)
 pl:r'.ps.length=r.ps.length
 ps: ∀(i:Nat) (q p:Int×SV),r'.ps[i]? =some q->r.ps[i]? =some p->q.1=p.1/\q.2.l=(pk.filter (mo ats)).length
def akA (h1:ae) (κ0 ub:Nat->Nat) (n0 ai n F R:Nat) (fc rc:List Value) (B O:SV) (c5 c8:Value) (ats:List Int) (ah:List (List Int)) (aK:List Nat) (rs:List XR) (m:Nat) (e:Env) (h':ae):Prop:=
 ∃(i:Nat) (κ cap:Nat->Nat) (JV acc:List XR) (A:SV),m=aK.length-i/\i<=aK.length/\Env.get e 2= .pointer (some ⟨F,0,none⟩)/\Env.get e 4= .pointer (some ⟨R,0,none⟩)/\Env.get e 5=c5/\Env.get e 8=c8/\Env.get e 42=O.v/\Env.get e 43= .int .i64 aK.length/\Env.get e 44= .int .i64 i/\Env.get e 9=A.v/\
  ab (fun b=>κ0 b=3\/κ0 b=5) h1 h'/\Ext κ0 ub κ cap/\(∀b,b<h1.next->κ b=κ0 b)/\cq h' n0 ai κ cap JV/\(∀b,ax A.v b->κ b=0)/\e_ fe h' B JV/\JV.length=n/\cI fe h1.next h' A.v acc/\acc.length=i/\
  (∀(j k:Nat) (a:XR),aK[j]? =some k->acc[j]? =some a->JV[k]? =some a)/\
  (∀(k:Nat) (r r':XR),rs[k]? =some r->JV[k]? =some r'->(k∈aK.take i-> ∃pk,ah[k]? =some pk/\KR ats pk r r')/\(k∉aK.take i->r'=r))
theorem Lk (xz:bu h1) {n dA d8 n8 n0 ai F R sF sR:Nat} (TP:KB h1 κ0 n dA d8 n8 ats ws ah) (uJ:rs.length=n) (um:n0<=h1.next) (Os:cq h1 n0 ai κ0 ub rs) (hB:e_ fe h1 B rs) (kB: ∀b,ax B.v b->κ0 b=2)
  {name:ByteArray} {p r:Int} (hF:h1.tr.get F=some (.aA (au name p r B) false 0 sF)) (κF:κ0 F=0) (hR:h1.tr.get R=some (.aA [.string ⟨⟨[]⟩⟩,.int .i64 0,.int .i64 0,.slice none 0 0] false 0 sR)) (κR:κ0 R=0) {aK:List Nat} (nd:aK.Nodup) (ef: ∀x∈aK,x<n) {O:SV} (hO:bk bp h1 O.v (nI aK)) (κO:aK≠[]-> ∀b,ax O.v b->κ0 b=0)
  (Ej: ∀r∈rs,r.ts.length<1000000/\ ∀t∈r.ts,0<=t/\t<n) (gM: ∀(k:Nat) (r:XR) (pk:List Int),rs[k]? =some r->ah[k]? =some pk-> ∀q∈r.ps,q.2.l=pk.length) (va: ∀r∈rs,r.ps.length<1000000)
  {e:Env} {Q:aP->Env->ae->Prop} (f2:Env.get e 2= .pointer (some ⟨F,0,none⟩)) (f4:Env.get e 4= .pointer (some ⟨R,0,none⟩)) (f5:Env.get e 5= .slice (some ⟨dA,0,none⟩) n n) (f8:Env.get e 8= .slice (some ⟨d8,0,none⟩) n n) (f42:Env.get e 42=O.v) (f43:Env.get e 43= .int .i64 aK.length) (f44:Env.get e 44= .int .i64 0) (f9:Env.get e 9=fI.v)
  (C: ∀e' h' κ cap JV acc A,Env.get e' 2= .pointer (some ⟨F,0,none⟩)->Env.get e' 4= .pointer (some ⟨R,0,none⟩)->Env.get e' 9=SV.v A->ab (fun b=>κ0 b=3\/κ0 b=5) h1 h'->Ext κ0 ub κ cap->(∀b,b<h1.next->κ b=κ0 b)->cq h' n0 ai κ cap JV->(∀b,ax (SV.v A) b->κ b=0)->cI fe h1.next h' (SV.v A) acc->acc.length=aK.length->(∀(j k:Nat) (a:XR),aK[j]? =some k->acc[j]? =some a->JV[k]? =some a)->JV.length=n->
   (∀(k:Nat) (r r':XR),rs[k]? =some r->JV[k]? =some r'->k∈aK-> ∃pk,ah[k]? =some pk/\KR ats pk r r')->Q (.exit 2) e' h'):
  aB FF (.loop tJ) e h1 Q:=by
 have hnn:=TP.nn;have XJ:O.l=aK.length:=by obtain⟨a,cap,e,_⟩:=hO;simp[nI] at e;exact e.2.1
 have Vp:aK.length<=n:=by have:=gK_ nd (l₂:=List.range n) (fun x hx=>NB.2 (ef x hx));simpa using this
 refine aB.loop (akA h1 κ0 ub n0 ai n F R (au name p r B) [.string ⟨⟨[]⟩⟩,.int .i64 0,.int .i64 0,.slice none 0 0] B O (.slice (some ⟨dA,0,none⟩) n n) (.slice (some ⟨d8,0,none⟩) n n) ats ah aK rs) ?_ (n:=aK.length)
  ⟨0,κ0,ub,rs,[],fI,rfl,by omega,f2,f4,f5,f8,f42,f43,f44,f9,.refl xz,Ext.refl _ _,fun _ _=>rfl,Os,fun b hb=>(fW rfl hb).elim,hB,uJ,.inl ⟨rfl,rfl⟩,rfl,fun j k a _ h=>by simp at h,fun k r r' h1 h2=>⟨fun h=>by simp at h,fun _=>by rw[h1] at h2;cases h2;rfl⟩⟩
 rintro m e' h' ⟨i,κ,cap,JV,acc,A,rfl,hi,q2,q4,q5,q8,q42,Qh,Jk,q9,g,E1,κlo,O',κA',hB',Zb,uh,KN,Vx,H⟩;have bX:=g.ok;unfold tJ;by_cases ff:i<aK.length
 .have wi:=wrap_i64 ((i:Int)+1) (by omega) (by omega);obtain⟨k,hk⟩: ∃k,aK[i]? =some k:=⟨_,aX ff⟩;have Ec:=ef k (dk hk);obtain⟨r0,AY⟩: ∃r0,rs[k]? =some r0:=⟨_,aX (by omega)⟩;obtain⟨r1,o7⟩: ∃r1,JV[k]? =some r1:=⟨_,aX (by omega)⟩;have ahb:k∉aK.take i:=by
   intro hm;obtain⟨j,hj⟩:=rT hm;rw[DZ] at hj;split at hj
   .have h1:=(bY.mp hj).2;have h2:=(bY.mp hk).2;have:=(List.getElem_inj nd).1 (h1.trans h2.symm);omega
   .cases hj
  have er:=(H k r0 r1 AY o7).2 ahb;subst er;have w35: ∀x,(κ0 x=3\/κ0 x=5)->κ0 x≠0:=fun x h=>by omega
  have KB':=TP.at xz (g.bJ (fun x _ h=>w35 x h));obtain⟨sA,hA'⟩:=KB'.hA;obtain⟨pk,zo⟩: ∃pk,ah[k]? =some pk:=⟨_,aX (by rw[TP.rows.len];exact Ec)⟩;obtain⟨wk,MF⟩: ∃wk,ws[k]? =some wk:=⟨_,aX (by rw[TP.acc.len,TP.rows.len];exact Ec)⟩;have hO':=Di hO xz g (fun cJ b hb h=>w35 b h (κO (fun e=>cJ (by rw[e];rfl)) b hb));obtain⟨bO,aoT,alD,hOv,_,_,an1⟩:=hO'.read (P7 hk);have ro:=an1 0 1 (by decide);simp[-ag,nI] at ro hOv;have sD:=g.get xz hF (fun h=>w35 F h κF);simp[au] at sD;obtain⟨bB,cs,oB,sB,ig,FZ,YZ,eH,dy,fH⟩:=hB'.el o7;have ew:=hB'.len;have HC:=dy 0 6 (by decide);simp[-ag] at HC;rw[ig,ew,Zb] at sD;simp at q42;rw[hOv.1,XJ] at q42;have R1:=O'.r k r1 o7;have R0:=Os.r k r1 AY;have jl:=R1.P.len;have tC:=R1.T.len;have oF:=bX.bA sD;simp[q2,q42,Qh,Jk,ff,ro,sD,Ec,HC,-ag,av,aq sD,jl];refine aB.cut (fun h2=>ab aG h' h2/\ ∃s,h2.tr.get h'.next=some (.aA [r1.P.v,r1.L.v,.int .i64 r1.kind,.bool r1.on.1,.int .i64 r1.on.2,r1.T.v] false 0 s)) ?_ ?_
  .refine⟨(ab.refl bX).var _ _,h'.clock,?_⟩;simp[aJ,jl]
  rintro h2 ⟨g2,sX,dS⟩;have ln:=g.next;have κX0:κ0 h'.next=0:=by
   rcases tP (κ0 h'.next) with h|h
   .exact h
   .have:=(Os.new h'.next (by omega)).2;omega
  have G2:ab (fun b=>κ0 b=3\/κ0 b=5) h1 h2:=g.trans (g2.bJ (fun _ _ h=>h.elim));have O2:=O'.bt bX g2;have B2:=TP.at xz (G2.bJ (fun x _ h=>w35 x h));refine Rv g2.ok B2 o7 O2 (by have:=G2.next;omega) (fun b hb=>(E1 b hb).1) (fun b hb=>R0.kP b hb) dS κX0 MF zo (gM k r1 pk AY zo) (va r1 (dk AY)) Ec (by simp[q5]) (by simp[q8]) (by simp) (by simp) (by simp[jl]) (by simp) (by simp) ?_;intro e3 h3 κ3 abG qs K3 g3 fK E3 z9 O3 acV H3;have G3:=G2.trans (g3.bJ (fun x _ h=>(.inl h:κ0 x=3\/κ0 x=5)));have k2:=K3.at (t:=2) (by simp;exact q2);have k4:=K3.at (t:=4) (by simp;exact q4);have k5:=K3.at (t:=5) (by simp;exact q5);have k8:=K3.at (t:=8) (by simp;exact q8);have k9:=K3.at (t:=9) (by simp;exact q9);have VP:Env.get e3 12= .pointer (some ⟨h'.next,0,none⟩):=K3.at (t:=12) (by simp);have k42:=K3.at (t:=42) (by simp;exact q42);have k43:=K3.at (t:=43) (by simp;exact Qh);have k44:=K3.at (t:=44) (by simp;exact Jk);have hkC:k<JV.length:=by omega
  obtain⟨r3,YA⟩: ∃r3:XR,r3= { r1 with ps:=qs } :=⟨_,rfl⟩;rw[<-YA] at O3;have hr3:(JV.set k r3)[k]? =some r3:=by rw[eR,aU rfl,aU hkC]
  have nT: ∀b,κ0 b=0-> ¬ax r3.T.v b:=fun b hb h=>by rw[YA] at h;have:=R0.kT b h;omega
  obtain⟨sA3,JO⟩:=(TP.at xz (G3.bJ (fun x _ h=>w35 x h))).hA;have zW:h3.tr.get h'.next=some (.aA [r3.P.v,r3.L.v,.int .i64 r3.kind,.bool r3.on.1,.int .i64 r3.on.2,r3.T.v] false 0 sX):=by rw[YA];exact fK
  have amy:r3.T.l=r1.ts.length:=by rw[YA];exact tC
  have ac7:r3.ts=r1.ts:=by rw[YA]
  obtain⟨pK,htr⟩:=Ej r1 (dk AY);simp at zW;simp[VP,zW];refine Zo G3.ok (n:=n) JO TP.al hr3 O3 (nT _ TP.κA) (by rw[ac7];exact htr) (by rw[ac7];exact pK) (by omega) (by simpa using zW) (nT _ κX0) (by simp[k5]) (by simp[VP]) (by simp) (by simp[amy,ac7]) (by simp) ?_;intro e4 h4 K4 g4 tR O4;have G4:ab (fun b=>κ0 b=3\/κ0 b=5) h1 h4:=G3.trans (g4.bJ (fun x _ h=>by rw[YA] at h;have:=R0.kT x h;omega))
  have m2:=K4.at (t:=2) (by simp;exact k2);have m4:=K4.at (t:=4) (by simp;exact k4);have m5:=K4.at (t:=5) (by simp;exact k5);have m8:=K4.at (t:=8) (by simp;exact k8);have m9:=K4.at (t:=9) (by simp;exact k9);have MI:Env.get e4 12= .pointer (some ⟨h'.next,0,none⟩):=K4.at (t:=12) (by simp;exact VP);have m42:=K4.at (t:=42) (by simp;exact k42);have m43:=K4.at (t:=43) (by simp;exact k43);have m44:=K4.at (t:=44) (by simp;exact k44);rw[List.set_set] at O4;obtain⟨r4,er4⟩: ∃r4:XR,r4= { r3 with ts:=r3.ts.map (Gj ats) } :=⟨_,rfl⟩;rw[<-er4] at O4;have D6:h4.tr.get h'.next=some (.aA (fe.enc r4) false 0 sX):=by rw[er4];exact tR
  simp only[qJ] at D6;simp at D6 m9;simp[m9,MI,D6];have hG:ab (fun b=>κ0 b=3\/κ0 b=5) h' h4:=(g2.bJ (fun _ _ h=>h.elim)).trans ((g3.bJ (fun x _ h=>(.inl h:κ0 x=3\/κ0 x=5))).trans (g4.bJ (fun x _ h=>by rw[YA] at h;exact .inr (R0.kT x h))))
  
  have agF:cI fe h1.next h4 A.v acc:=by exact uh.grow bX hG (fun b hb h=>by have:=uh.of hb;have:=(Os.new b (w35 b h)).2;omega)
  have g5:=aO G4.ok (fe.enc r4) 0;have yo:=agF.grow G4.ok g5 (fun _ _ h=>h);have hw5:bk fe (aL h4 (fe.enc r4) 0) (.slice (some ⟨h4.next,0,none⟩) 1 1) [r4]:=⟨_,_,rfl,.inr ⟨h4.next,0,_,_,_,_,rfl,cx _ _ _,by simp,by simp⟩⟩;simp only[qJ] at g5 yo hw5;simp at g5 yo hw5;have lG4:=G4.next;obtain⟨v',h6,ha6,YK,g6,hd6⟩:=pY (bytes:=96) g5.ok (z:=[.slice none 0 0,.slice none 0 0,.int .i64 0,.bool false,.int .i64 0,.slice none 0 0]) rfl yo hw5 (by omega) (by decide) (by simp;omega);refine kE ha6 ?_;obtain⟨V,rfl⟩:=cI.sv' YK;have lA: ∀b,ax (.slice A.a A.l A.c) b->h1.next<=b:=fun b hb=>uh.of (by simpa using hb);have G6:ab (fun b=>κ0 b=3\/κ0 b=5) h1 h6:=(G4.trans (g5.bJ (fun _ _ h=>h.elim))).trans' g6 (fun _ _ h=>h) (fun x hx h=>by have:=lA x h;omega);simp[m44,wi];refine⟨aK.length-(i+1),by omega,i+1,κ3,abG,JV.set k r4,acc++[r4],V,rfl,by omega,by simp[m2],by simp[m4],by simp[m5],by simp[m8],by simp[m42,hOv.1,XJ],by simp[m43],by simp,by simp,G6,E1.trans E3,fun b hb=>by rw[z9 b (by have:=G2.next;omega),κlo b hb],?_,?_,?_,by simp[Zb],YK,by simp[KN],?_,?_⟩
  .refine(O4.bt G4.ok g5).grow g5.ok g6 (fun b hb=> .inl ?_);have iy:ax A.v b:=by simpa using hb
   have KP:=uh.sl;have:b<h'.next:=by
    rcases uh with⟨_,e⟩|⟨b2,s2,e,dq,_⟩
    .rw[e] at iy;obtain⟨_,_,_,e3⟩:=iy;cases e3
    .rw[e] at iy;obtain⟨_,_,_,e3⟩:=iy;cases e3;exact bX.wf _ _ dq
   rw[z9 b (by have:=g2.next;omega),κA' b iy]
  .intro b hb;have:=hd6 b hb;simp at this;rcases tP (κ3 b) with h|h
   .exact h
   .have:=(O4.new b (by omega)).2;omega
  .have hBB: ∀b,ax B.v b-> ¬(κ0 b=3\/κ0 b=5):=fun b hb h=>by have:=kB b hb;omega
   have YL:=hB'.grow bX hG hBB;have hB6:=(YL.bt G4.ok g5).grow g5.ok g6 (fun b hb h=>by have:=lA b h;have:=hB.bA xz hb;omega);refine zQ hB6 (by simp) (fun j x y h1 h2=> ?_);rw[eR] at h2;by_cases ej:k=j
   .subst ej;rw[aU rfl,aU hkC] at h2;cases h2;rw[o7] at h1;cases h1;rw[er4,YA];rfl
   .rw[aT ej] at h2;rw[h1] at h2;cases h2;rfl
  .intro j k' a h1 h2;rw[eR];by_cases hj:j<i
   .rw[KH (by omega)] at h2;have cJ: ¬k=k':=fun e=>by subst e;have a1:=(bY.mp h1).2;have a2:=(bY.mp hk).2;have:=(List.getElem_inj nd).1 (a1.trans a2.symm);omega
    rw[aT cJ];exact Vx j k' a h1 h2
   .rw[Mv (by omega)] at h2;have hj0:j-acc.length=0:=by have:=(bY.mp h2).1;simp at this;omega
    have Tl:j=i:=by omega
    subst Tl;rw[hj0] at h2;simp at h2;rw[hk] at h1;cases h1;rw[aU rfl,aU hkC,h2]
  .intro k' a c h1 h2;rw[yn,hk];rw[eR] at h2;by_cases ek:k=k'
   .subst ek;rw[aU rfl,aU hkC] at h2;cases h2;rw[AY] at h1;cases h1;refine⟨fun _=>⟨pk,zo,?_⟩,fun h=>absurd (List.mem_append_right _ (by simp)) h⟩;rw[er4,YA];exact⟨rfl,rfl,rfl,rfl,rfl,rfl,rfl,acV,fun i q p a b=>⟨(H3 i q p a b).1,(H3 i q p a b).2.2⟩⟩
   .rw[aT ek] at h2;obtain⟨c1,c2⟩:=H k' a c h1 h2;refine⟨fun h=>c1 ?_,fun h=>c2 (fun h'=>h (List.mem_append_left _ h'))⟩;rcases tO.1 h with h|h
    .exact h
    .simp at h;exact absurd h.symm ek
 .have:i=aK.length:=by omega
  subst this;rw[xV] at H;simp[Qh,Jk];exact C _ _ κ cap JV acc A (by simp[q2]) (by simp[q4]) (by simp[q9]) g E1 κlo O' κA' uh KN Vx Zb (fun k r r' h1 h2=>(H k r r' h1 h2).1)
theorem cq.sel (w:cq h n0 ai κ cap rs) (f:Nat->Nat) (hs: ∀(i:Nat) (x:XR),xs[i]? =some x->rs[f i]? =some x) (hf: ∀i j:Nat,i<xs.length->j<xs.length->f i=f j->i=j):cq h n0 ai κ cap xs:=by
 have dd: ∀(g:XR->SV),(∀(i j:Nat) (ri rj:XR) (b:Nat),rs[i]? =some ri->rs[j]? =some rj->i≠j->ax (g ri).v b-> ¬ax (g rj).v b)-> ∀(i j:Nat) (ri rj:XR) (b:Nat),xs[i]? =some ri->xs[j]? =some rj->i≠j->ax (g ri).v b-> ¬ax (g rj).v b:=by intro g d i j ri rj b h1 h2 hn;exact d (f i) (f j) ri rj b (hs i ri h1) (hs j rj h2) (fun e=>hn (hf i j (bY.mp h1).1 (bY.mp h2).1 e))
 exact⟨fun i x hx=>w.r (f i) x (hs i x hx),dd (·.P) w.dP,dd (·.L) w.dL,dd (·.T) w.dT,w.V,w.new⟩
structure abv (rs:List XR) (aK:List Nat):Prop where
 T:TOk (bz rs)
 Ez:rs.length<=72
 short: ∀ps∈Edge.bw (bz rs),ps.length<50
 nd:aK.Nodup
 lt: ∀x∈aK,x<rs.length
 pl: ∀r∈rs,r.ps.length<1000000
 rows: ∀(k:Nat) (r:XR) (pk:List Int),rs[k]? =some r->(Edge.bw (bz rs))[k]? =some pk-> ∀q∈r.ps,q.2.l=pk.length
def afd (name:ByteArray) (p r:Int) (n0 ai:Nat) (κ0:Nat->Nat) (rs:List XR) (aK:List Nat) (h:ae) (v:Value) (h':ae):Prop:=
 ab (fun b=>κ0 b=3\/κ0 b=5) h h'/\ ∃(B':SV) (bH:List XR) (κ cap:Nat->Nat) (ats:List Int),v= .agg ⟨au name p r B'⟩/\(∀x,x<h.next->κ x=κ0 x)/\mF h' n0 ai κ cap B' bH/\bH.length=aK.length/\ats.length=rs.length/\
  (∀i x:Nat,aK[i]? =some x->ats[x]? =some (i:Int))/\(∀x,x<rs.length->x∉aK->ats[x]? =some (-1))/\
  ∀(i k:Nat) (a b:XR),aK[i]? =some k->rs[k]? =some a->bH[i]? =some b-> ∃pk,(Edge.bw (bz rs))[k]? =some pk/\KR ats pk a b
theorem WV {cT:List (List Int)} (T:TOk cT):A0 cT.length (Edge.bw cT):=by
 have Ej: ∀ts∈cT,∀t∈ts,t.toNat<cT.length:=fun ts jT t ht=>by have:=T.to ts jT t ht;omega
 refine⟨Edge.dz _,fun x ps gM=>⟨?_,fun p hp=> ?_⟩⟩
 .have h1:=Edge.ox (n:=cT.length) (dw:=cT) T.two x cT.length;have h2:((Edge.upto cT.length cT cT.length)[x]?).getD []=ps:=by show((Edge.bw cT)[x]?).getD []=ps;rw[gM];rfl
  rw[h2] at h1;have:=T.len;omega
 .have hm:=(Edge.qk Ej (u:=x) (x:=p)).1 (by rw[gM];exact hp);obtain⟨i,rfl,ts,ht,_⟩:=hm;have:=(bY.mp ht).1;omega
theorem Ru (ok:bu h) {name:ByteArray} {p r:Int} (W:mF h n0 ai κ0 ub B rs) (um:n0<=h.next) (I:abv rs aK) (hO:bk bp h O.v (nI aK)) (κO:aK≠[]-> ∀b,ax O.v b->κ0 b=0):
  aF FF wR [.agg ⟨au name p r B⟩,O.v] h (afd name p r n0 ai κ0 rs aK h):=by
 have ew:=W.A.len;have h24:=I.Ez;have XJ:O.l=aK.length:=by obtain⟨a,cap,e,_⟩:=hO;simp[nI] at e;exact e.2.1
 have Vp:aK.length<=rs.length:=by have:=gK_ I.nd (l₂:=List.range rs.length) (fun x hx=>NB.2 (I.lt x hx));simpa using this
 have κnew: ∀b,h.next<=b->κ0 b=0:=fun b hb=>by
  rcases tP (κ0 b) with h|h
  .exact h
  .have:=(W.os.new b (by omega)).2;omega
 refine aF.of Kg ?_;unfold BN;have n2: ¬h.next=h.next+1+1:=by omega
 simp[au,n2];refine aE.cut (fun h1=>ab aG h h1/\(∃s,h1.tr.get h.next=some (.aA (au name p r B) false 0 s))/\(∃s,h1.tr.get (h.next+1)=some (.aA [.string ⟨⟨[]⟩⟩,.int .i64 0,.int .i64 0,.slice none 0 0] false 0 s))/\(∃s,h1.tr.get (h.next+1+1)=some (.aA [.int .i64 (-1)] false 0 s))) ?_ ?_
 .exact⟨(((ab.refl ok).new _ _).new _ _).new _ _,⟨0,by simp[au,n2]⟩,⟨0,by simp⟩,⟨0,by simp⟩⟩
 rintro h1 ⟨g1,⟨sF,wK⟩,⟨sR,sG⟩,⟨s1,PR⟩⟩;refine aE.call (V:=fun v h'=>ab aG h1 h'/\ ∃d s,v= .slice (some ⟨d,0,none⟩) rs.length rs.length/\h1.next<=d/\h'.tr.get d=some (.aA (bp.flat (List.replicate rs.length (-1:Int))) false 0 s)) (by simpa [ew] using E8 g1.ok rs.length (by omega) (x:= -1) PR) ?_;rintro _ h2 ⟨g2,dA,sA,rfl,hdA,IJ⟩;have iI:=g1.trans g2;have kx:=g2.get g1.ok wK (fun h=>h);have xW:=g2.get g1.ok sG (fun h=>h);have lR:=g1.ok.wf _ _ sG;simp[XJ];refine Zn iI.ok (n:=rs.length) I.nd I.lt Vp (by omega) (hO.bt ok iI) (fun b hb cJ e=> ?_) IJ (by simp) (by simp[XJ]) (by simp) (by simp) ?_
 .subst e;have ef:b<h.next:=by
   obtain⟨off,nn,iK,e1⟩:=hb;obtain⟨a,cap,e2,hx⟩:=hO;rcases hx with⟨h1,_⟩|⟨b2,Ot,cs2,ro2,o2,st2,e3,dq,_⟩
   .have:(nI aK).length=0:=by rw[h1];rfl
    simp[nI] at this;exact absurd this cJ
   .rw[e1,e3] at e2;injection e2 with e2;cases e2;exact ok.wf _ _ dq
  have:=g1.next;omega
 intro e3 h3 ats K3 g3 ⟨sA3,JO⟩ C0 BY Vk;have dh:ab aG h h3:=iI.trans' g3 (fun _ _ h=>h) (fun x hx e=>by have:=g1.next;omega);have vH:=g3.get iI.ok kx (by omega);have Ga:=g3.get iI.ok xW (by omega);have W3:=W.bt ok dh;obtain⟨bs,IP,hV⟩:=W3.view;have E:=hV.ends I.T;have Br:=hV.dw;have k1:Env.get e3 1=O.v:=K3.at (t:=1) (by simp[XJ]);have k2:Env.get e3 2= .pointer (some ⟨h.next,0,none⟩):=K3.at (t:=2) (by simp);have k4:Env.get e3 4= .pointer (some ⟨h.next+1,0,none⟩):=K3.at (t:=4) (by simp);have k5:Env.get e3 5= .slice (some ⟨dA,0,none⟩) rs.length rs.length:=K3.at (t:=5) (by simp);simp[au] at vH;simp[k2,vH];refine aE.call (V:=fun v h'=>ab aG h3 h'/\ ∃d ws,v= .slice (some ⟨d,0,none⟩) bs.length bs.length/\jm bp h3.next h' d ws (Edge.bw (bj bs))) (by simpa [au] using jA dh.ok (name:=name) (p:=p) (r:=r) IP E) ?_;rintro _ h4 ⟨g4,d8,ws,rfl,w8⟩;rw[Br] at w8;have pc:bs.length=rs.length:=hV.1;rw[pc];have mK:=dh.trans g4;have F9:=g4.get dh.ok vH (fun h=>h);have NJ:=g4.get dh.ok Ga (fun h=>h);have Td:=g4.get dh.ok JO (fun h=>h);have W4:=W.bt ok mK;have pK:(bz rs).length=rs.length:=by simp[bz]
 have RW:=WV I.T;rw[pK] at RW;have ln1:=g1.next;have ln3:=dh.next;have TP:KB h4 κ0 rs.length dA d8 h3.next ats ws (Edge.bw (bz rs)):=⟨by omega,⟨sA3,Td⟩,C0,w8,κnew dA (by omega),fun b hb=>by have:=(W.os.new b hb).2;omega,RW,I.short⟩;have Ej: ∀x∈rs,x.ts.length<1000000/\ ∀t∈x.ts,0<=t/\t<rs.length:=by intro x hx;have hm:x.ts∈bz rs:=j9.2 ⟨x,hx,rfl⟩;refine⟨by have:=I.T.two _ hm;omega,fun t ht=> ?_⟩;have:=I.T.to _ hm t ht;rw[pK] at this;exact this
 simp[k1,XJ];refine Lk mK.ok TP rfl (by have:=mK.next;omega) W4.os W4.A W4.kB F9 (κnew _ (by omega)) NJ (κnew _ (by omega)) I.nd I.lt (hO.bt ok mK) κO Ej I.rows I.pl (by simp[k2]) (by simp[k4]) (by simp[k5]) (by simp) (by simp[XJ]) (by simp) (by simp) (by simp[fI]) ?_;intro e5 h5 κ cap JV acc A q2 q4 q9 g5 E5 κlo O5 κA5 uh KN Vx Zb H5;have w35: ∀x,(κ0 x=3\/κ0 x=5)->κ0 x≠0:=fun x h=>by omega
 have NG:=g5.get mK.ok F9 (fun h=>w35 _ h (κnew _ (by omega)));have u9:=g5.get mK.ok NJ (fun h=>w35 _ h (κnew _ (by omega)));simp at q9;simp[q2,q4,q9,NG,u9];have ln4:=mK.next;have ln5:=g5.next;have κ0n: ∀x,h.next<=x->x<h4.next->κ x=0:=fun x h1 h2=>by rw[κlo x h2];exact κnew x h1
 have yo:e_ fe h5 A acc:=by
  rcases uh with⟨e1,e2⟩|⟨b,s,e2,hb,hx,iz⟩
  .simp at e2;exact⟨by rw[e1];exact e2.2.1,.inl ⟨e2.1,e2.2.2,e1⟩⟩
  .simp at e2;exact⟨e2.2.1,.inr ⟨b,_,s,[],e2.1,by simp[e2.2.2],by simpa using hb,.inr rfl⟩⟩
 have apE: ∀(i:Nat) (x:XR),acc[i]? =some x-> ∃k,aK[i]? =some k/\JV[k]? =some x:=by
  intro i x hx;have hi:i<aK.length:=by rw[<-KN];exact(bY.mp hx).1
  exact⟨_,aX hi,Vx i _ x (aX hi) hx⟩
 have OA:=O5.sel (xs:=acc) (fun i=>(aK[i]?).getD 0) (fun i x hx=>by
  obtain⟨k,h1,h2⟩:=apE i x hx;rw[h1];exact h2) (fun i j hi hj e=>by
  have C2:i<aK.length:=by omega
  have Ra:j<aK.length:=by omega
  rw[aX C2,aX Ra] at e;exact(List.getElem_inj I.nd).1 e)
 have lA: ∀b,ax A.v b->h4.next<=b:=fun b hb=>uh.of hb;obtain⟨κ',w',e'⟩:=cq.own OA g5.ok yo (dK n0) (fun b hb=>⟨by have:=lA b hb;omega,κA5 b hb⟩);have κ'0: ∀x,h.next<=x->x<h4.next->κ' x=0:=fun x h1 h2=>by rw[e' x (fun hb=>by have:=lA x hb;omega)];exact κ0n x h1 h2
 have l2:=g2.next;have l3:=g3.next;have l4:=g4.next;have gw:=((ab.refl g5.ok).put (S:=fun x=>x=h.next\/x=h.next+1) (off:=3) (vs:=[Value.slice A.a A.l A.c]) ⟨_,NG⟩ (.inr (.inl rfl))).put (b:=h.next+1) (off:=0) (cs:=[Value.string ⟨⟨[]⟩⟩,Value.int IntKind.i64 0,Value.int IntKind.i64 0,Value.slice none 0 0]) (o:=0) (vs:=[Value.string name,Value.int IntKind.i64 p,Value.int IntKind.i64 r,Value.slice A.a A.l A.c]) ⟨sR,by simp[u9]⟩ (.inr (.inr rfl));generalize put (put h5 _ _ _ _ _) _ _ _ _ _=h6 at gw ⊢;refine⟨?_,A,acc,κ',cap,ats,by simp[au],fun x hx=>by rw[e' x (fun hb=>by have:=lA x hb;omega),κlo x (by omega)],w'.grow g5.ok gw (fun b hb=> ?_),KN,C0,BY,Vk,fun i k a b h1 h2 h3=> ?_⟩
 .exact(mK.trans' g5 (S:=fun b=>κ0 b=3\/κ0 b=5) (fun _ _ h=>h.elim) (fun _ _ h=>h)).trans' gw (fun _ _ h=>h) (fun x hx e=>by omega)
 .rcases hb with e|e<;>(rw[e];exact κ'0 _ (by omega) (by omega))
 .exact H5 k a b h2 (Vx i k b h1 h3) (dk h1)
theorem AK {α:Type} (E:Enc α) (ys zs:List α) (i:Nat):aJ (E.flat ys) (i*E.sz) (E.flat zs)=E.flat (ys.take i++zs++ys.drop (i+zs.length)):=by unfold aJ;rw[E.gZ,E.bC,<-rU,E.lv,E.dO,E.dO]
def IxI (h:ae) (W:SV) (t:Int) (xs:List Int) (m:Nat) (e:Env) (h2:ae):Prop:=
 ∃j:Nat,m=xs.length-j/\j<=xs.length/\Env.get e 0=W.v/\Env.get e 1= .int .i64 t/\Env.get e 7= .int .i64 xs.length/\Env.get e 8= .int .i64 j/\h2=h/\ ∀k,k<j->xs[k]? ≠some t
theorem B9 {W:SV} {xs:List Int} (hW:bk bp h W.v xs) (hl:xs.length<1000000) {t:Int} (ht:t∈xs):
  aF FF mw [W.v,.int .i64 t] h (fun v h'=>h'=h/\ ∃k:Nat,v= .int .i64 k/\xs[k]? =some t):=by
 have NK:W.l=xs.length:=by obtain⟨a,cap,e,_⟩:=hW;simp at e;exact e.2.1
 refine aF.of uX ?_;unfold l9;simp[NK];refine aB.loop (IxI h W t xs) ?_ (n:=xs.length) ⟨0,rfl,by omega,by simp[NK],by simp,by simp,by simp,rfl,fun k hk=>by omega⟩;rintro m e h2 ⟨j,rfl,hj,f0,f1,f7,f8,rfl,hn⟩;unfold kF;have aS:j<xs.length:=by
  rcases AV j xs.length with h|h
  .exact h
  .obtain⟨k,hk⟩:=rT ht;exact absurd hk (hn k (by have:=(bY.mp hk).1;omega))
 have wj:=wrap_i64 ((j:Int)+1) (by omega) (by omega);obtain⟨x,hx⟩: ∃x,xs[j]? =some x:=⟨_,aX aS⟩;obtain⟨bW,aoV,alF,hWv,_,_,dy⟩:=hW.read hx;have ro:=dy 0 1 (by decide);simp[-ag] at ro hWv;simp at f0;rw[hWv.1,NK] at f0;by_cases e1:t=x
 .subst e1;simp[f0,f1,f7,f8,aS,ro,-ag];exact⟨j,rfl,hx⟩
 .have e2:(t==x)=false:=by simp[e1]
  simp[f0,f1,f7,f8,aS,ro,e2,wj,-ag];refine⟨xs.length-(j+1),by omega,j+1,rfl,by omega,by simp[f0,hWv.1,NK],by simp[f1],by simp[f7],by simp,rfl,fun k hk he=> ?_⟩;rcases AV k j with h|h
  .exact hn k h he
  .have:k=j:=by omega
   subst this;rw[hx] at he;cases he;exact e1 rfl
def TV (F:SV) (b o:Nat) (vs:List (Bool×Int)) (l:Nat) (y:Bool×Int) (h:ae) (v:Value) (h':ae):Prop:=
 ∃(F':SV) (vs':List (Bool×Int)),v=F'.v/\F'.a=F.a/\F'.l=l/\F'.c=F.c/\ab (· =b) h h'/\(∃s',h'.tr.get b=some (.aA (cr.flat vs') false o s'))/\vs'.length=vs.length/\ ∀v∈vs',v∈vs\/v=y
theorem UG (y:Bool×Int):cr.flat [y]=[.bool y.1,.int .i64 y.2]:=rfl
theorem Rq (ok:bu h) (ha:F.a=some ⟨b,0,none⟩) (hc:F.c=vs.length) (ef:F.l<F.c) (ho:o=0\/o=2) (hb:h.tr.get b=some (.aA (cr.flat vs) false o s))
  {x xo xc Qy xs:Nat} {Qx:List Value} {y:Bool×Int} (hx:h.tr.get x=some (.aA Qx false Qy xs)) (hv:bc h x xo 2=some [.bool y.1,.int .i64 y.2]) (PK:b≠x) (i:Nat) (hi:i<=F.l) (cn:F.l<1000000):
  aF FF gJ [F.v,.int .i64 i,.slice (some ⟨x,xo,none⟩) 1 xc] h (TV F b o vs (F.l+1) y h):=by
 have q1:Nat.ble i F.l=true:=by simpa using hi
 have q2:Nat.blt F.l F.c=true:=by simpa using ef
 have q3:(Nat.beq o 2||Nat.beq o 0)=true:=by rcases ho with rfl|rfl<;>rfl
 have q4:Nat.ble (0+F.c*2) (cr.flat vs).length=true:=by rw[cr.bC,hc];simp
 have q5:Nat.beq b x=false:=by
  cases e:Nat.beq b x with
  |true=>exact absurd (nO e) PK
  |false=>rfl
 have q6:Nat.blt F.l 1000000=true:=by simpa using cn
 have e1:Go.AI.aC (cr.flat vs) [.bool y.1,.int .i64 y.2] 0 i F.l 2=cr.flat (vs.take i++[y]++(vs.drop i).take (F.l-i)):=by have a1:=cr.gZ vs i;have a2:=cr.lv vs i;have a3:=cr.gZ (vs.drop i) (F.l-i);simp only[eu] at a1 a2 a3;unfold Go.AI.aC;rw[List.drop_zero,a1,Bg,a2,a3,cr.dO,cr.dO,UG]
 have e2:aJ (cr.flat vs) 0 (Go.AI.aC (cr.flat vs) [.bool y.1,.int .i64 y.2] 0 i F.l 2)=cr.flat ((vs.take i++[y]++(vs.drop i).take (F.l-i))++vs.drop (F.l+1)):=by have:=AK cr vs (vs.take i++[y]++(vs.drop i).take (F.l-i)) 0;rw[Nat.zero_mul,List.take_zero,List.nil_append,Bg,<-e1] at this;rw[this];congr 3;simp;omega
 have hp:ZV 2 [F.v,.int .i64 i,.slice (some ⟨x,xo,none⟩) 1 xc] h=some (.slice (some ⟨b,0,none⟩) (F.l+1) F.c,{ put h b 0 (cr.flat vs) (Go.AI.aC (cr.flat vs) [.bool y.1,.int .i64 y.2] 0 i F.l 2) o with next:=h.next+8 }):=by show ZV 2 [.slice F.a F.l F.c,.int .i64 (.ofNat i),.slice (some ⟨x,xo,none⟩) 1 xc] h=_;rw[ha];simp only[ZV,hb,hx,q1,q2,q3,q4,q5,q6,Nat.beq_refl,Bool.and_true,Bool.not_false,if_true,hv]
 refine aF.run mI hp ⟨⟨F.a,F.l+1,F.c⟩,(vs.take i++[y]++(vs.drop i).take (F.l-i))++vs.drop (F.l+1),by simp[ha],rfl,rfl,rfl,?_,⟨h.clock,by rw[<-e2];simp[put,Tr.aN]⟩,?_,?_⟩
 .have g:=aM (off:=0) (vs:=Go.AI.aC (cr.flat vs) [.bool y.1,.int .i64 y.2] 0 i F.l 2) ok hb;exact⟨Nat.le_add_right _ _,g.clock,fun b' h1 h2=>g.same b' h1 h2,⟨fun b' o' h'=>IF (g.ok.wf b' o' h') (Nat.le_add_right _ _),g.ok.st⟩⟩
 .simp;omega
 .intro v IZ;simp only[tO,List.mem_singleton] at IZ;rcases IZ with((h1|h1)|h1)|h1
  .exact .inl (YI h1)
  .exact .inr h1
  .exact .inl (List.mem_of_mem_drop (YI h1))
  .exact .inl (List.mem_of_mem_drop h1)
theorem Us (ok:bu h) {b o s c l k K N:Nat} (hc:c=vs.length) (hl:l<=c) (hb:h.tr.get b=some (.aA (cr.flat vs) false o s)) (hk:k<l) (hK:K=k+1) (hN:N=l-1) (cn:l<1000000):
  ∃h2 vs2,p8 h [.bool false,.int .i64 0] 16 false (.slice (some ⟨b,0,none⟩) k c) (.slice (some ⟨b,K*2,none⟩) (l-K) (c-K))=some (.slice (some ⟨b,0,none⟩) N c,h2)/\ab (· =b) h h2/\(∃s,h2.tr.get b=some (.aA (cr.flat vs2) false o s))/\vs2.length=vs.length/\ ∀v∈vs2,v∈vs:=by
 have hM:((vs.drop K).take (l-K)).length=l-K:=by simp;omega
 have hw:bk cr h (.slice (some ⟨b,K*2,none⟩) (l-K) (c-K)) ((vs.drop K).take (l-K)):=by
  refine⟨_,_,by rw[hM],.inr ⟨b,K*2,_,_,_,_,rfl,hb,?_,?_⟩⟩
  .rw[hM,cr.bC,eu];omega
  .have a2:=cr.lv vs K;have a3:=cr.gZ (vs.drop K) (l-K);simp only[eu] at a2 a3;rw[hM,eu,a2,a3]
 unfold p8;rw[Jc (E:=cr) (z:=[.bool false,.int .i64 0]) rfl hw,hM];dsimp only;rcases tP (l-K) with h0|h0
 .refine⟨h,vs,?_,.refl ok,⟨s,hb⟩,rfl,fun v hv=>hv⟩;have:N=k:=by omega
  have q:k<=c:=by omega
  rw[h0,this];simp[ie,q]
 .obtain⟨M,hM'⟩: ∃M,M=l-K:=⟨_,rfl⟩;rw[<-hM'] at h0 hM ⊢;have r1:roomy N=true:=by simp[roomy];omega
  have r2:roomy (N*16)=true:=by simp[roomy];omega
  have q1:N<=c:=by omega
  have q2: ¬M=0:=by omega
  have e1:k+M=N:=by omega
  have iL:(cr.flat ((vs.drop K).take M)).length=M*2:=by rw[cr.bC,hM,eu]
  have q3:k*2+M*2<=(cr.flat vs).length:=by rw[cr.bC,eu];omega
  have q4:k*2+M*2<=vs.length*2:=by omega
  refine⟨put h b (k*2) (cr.flat vs) (cr.flat ((vs.drop K).take M)) o,vs.take k++(vs.drop K).take M++vs.drop (k+M),?_,aM ok hb,⟨h.clock,?_⟩,?_,?_⟩
  .simp[ie,r1,r2,q1,q2,hb,iL,q4,e1]
  .rw[aD];have:=AK cr vs ((vs.drop K).take M) k;rw[hM] at this;simp only[eu] at this;rw[this]
  .simp;omega
  .intro v hv;simp only[tO] at hv;rcases hv with(h1|h1)|h1
   .exact YI h1
   .exact List.mem_of_mem_drop (YI h1)
   .exact List.mem_of_mem_drop h1
theorem GJ (ok:bu h) (ha:F.a=some ⟨b,0,none⟩) (hc:F.c=vs.length) (hl:F.l<=F.c) (ho:o=0\/o=2) (hb:h.tr.get b=some (.aA (cr.flat vs) false o s)) (k:Nat) (hk:k<F.l) (cn:F.l<1000000):
  aF FF gI [F.v,.int .i64 k,.int .i64 ((k:Int)+1)] h (TV F b o vs (F.l-1) (false,0) h):=by
 obtain⟨K,hK⟩: ∃K,K=k+1:=⟨_,rfl⟩;obtain⟨N,hN⟩: ∃N,N=F.l-1:=⟨_,rfl⟩;have eK:((k:Int)+1)=(K:Int):=by omega
 rw[eK];have q1:K<=F.l:=by omega
 have q2:k<=K:=by omega
 have q3:((k:Int)==(K:Int))=false:=by simp;omega
 have q4:K<=F.c:=by omega
 have q5:k<=F.l:=by omega
 have q6:k<=F.c:=by omega
 refine aF.of mH ?_;unfold gD;have q7:(Nat.beq o 0||Nat.beq o 2)=true:=by rcases ho with rfl|rfl<;>rfl
 simp[ha,q1,q2,q3,q4,q5,q6,q7,hl,hb];obtain⟨h2,vs2,ea,g2,⟨s2,dq⟩,tT,hv2⟩:=Us (N:=N) (aW ok).ok hc hl (by simpa using hb) hk hK hN cn;refine ED ea ?_;have q8:N<=F.l:=by omega
 have q9:N<=F.c:=by omega
 have Cm:F.l-N=1:=by omega
 have mE:N*2+2<=vs2.length*2:=by omega
 have hr:jW [Value.bool false,Value.int IntKind.i64 0] 1=[.bool false,.int .i64 0]:=rfl;simp[q7,q8,q9,Cm,mE,hl,dq,hr];have g3:=aM (off:=N*2) (vs:=[.bool false,.int .i64 0]) g2.ok dq;refine⟨⟨some ⟨b,0,none⟩,N,F.c⟩,vs2.set N (false,0),by simp,ha.symm,hN,rfl,((aW ok).bt.trans g2).trans g3,⟨h2.clock,?_⟩,by simp[tT],fun x hx=> ?_⟩
 .rw[aD];have:=cr.fu vs2 N (false,0) (by omega);simp only[eu,ue] at this;rw[this]
 .rcases KG hx with h|h
  .exact .inl (hv2 _ h)
  .exact .inr h
section
variable {h h':ae} {n0 ai:Nat} {κ cap:Nat->Nat} {rs:List XR}
theorem cq.Bz (w:cq h n0 ai κ cap rs) (ok:bu h) (hk:κ b=1) (g:ab (· =b) h h') (hb: ∃s,h'.tr.get b=some (.aA (cr.flat vs) false o s)) (ho:o=0\/o=2) (hl:vs.length=cap b) (hv: ∀v∈vs,gK ai v):cq h' n0 ai κ cap rs:=by
 refine⟨fun i r hr=>(w.r i r hr).aaA ok g (fun x hx=>by subst hx;omega),w.dP,w.dL,w.dT,fun x hx=> ?_,fun x hx=>by have:=w.new x hx;have:=g.next;omega⟩;by_cases e:x=b
 .subst e;obtain⟨s,hb⟩:=hb;exact⟨vs,o,s,hb,ho,hl,hv⟩
 .obtain⟨vs',o',s',h1,h2⟩:=w.V x hx;exact⟨vs',o',s',g.get ok h1 e,h2⟩
theorem mF.Bz {B:SV} (w:mF h n0 ai κ cap B rs) (ok:bu h) {b:Nat} (hk:κ b=1) (g:ab (· =b) h h') {vs:List (Bool×Int)} {o:Nat} (hb: ∃s,h'.tr.get b=some (.aA (cr.flat vs) false o s)) (ho:o=0\/o=2) (hl:vs.length=cap b) (hv: ∀v∈vs,gK ai v):mF h' n0 ai κ cap B rs:=
 ⟨w.os.Bz ok hk g hb ho hl hv,w.A.grow ok g (fun x hx e=>by have:=w.kB x hx;subst e;omega),w.kB⟩
end
def akQ:List Nat:=[79,80,81,82,83,84,85,86,87,88,89,90,91,92,93,94,95,96,97,98,99]
theorem WO (ok:bu h) (O:mF h n0 ai κ cap B rs) {F X1 X2 y i k j sF:Nat} (hF:h.tr.get F=some (.aA (au name p rg B) false 0 sF)) (κF:κ F=0) (hr:rs[y]? =some r) (hq:r.ps[i]? =some q)
  (mL: ∃s,h.tr.get X1=some (.aA [.int .i64 q.1,q.2.v] false 0 s)) (κ1:κ X1=0) {v:Bool×Int} (dS: ∃s,h.tr.get X2=some (.aA [.bool v.1,.int .i64 v.2] false 0 s)) (κ2:κ X2=0) (hv:gK ai v) (hk:k<q.2.l) (hj:j+1<=q.2.l) (K0:q.2.l<1000000) (ff:r.ps.length<1000000)
  {e:Env} {Q:aP->Env->ae->Prop} (f0:Env.get e 0= .pointer (some ⟨F,0,none⟩)) (f8:Env.get e 8= .int .i64 y) (f9:Env.get e 9= .int .i64 k) (f10:Env.get e 10= .int .i64 j) (f13:Env.get e 13= .int .i64 i) (f14:Env.get e 14= .pointer (some ⟨X1,0,none⟩)) (f15:Env.get e 15= .pointer (some ⟨X2,0,none⟩))
  (C: ∀e' h' F',aw akQ e e'->ab (fun b=>κ b=1\/κ b=3) h h'->F'.l=q.2.l->mF h' n0 ai κ cap B (rs.set y { r with ps:=r.ps.set i (q.1,F') })->Q .normal e' h'):aB FF Jm e h Q:=by
 obtain⟨s1,mL⟩:=mL;obtain⟨s2,dS⟩:=dS;have R:=O.os.r y r hr;have uw:=(bY.mp hr).1;have acz:=(bY.mp hq).1;obtain⟨bB,cs,oB,sB,ig,FZ,YZ,eH,dy,fH⟩:=O.A.el hr;have κB:κ bB=2:=O.kB bB (bU ig);have HC:=dy 0 1 (by decide);simp[-ag] at HC;have D3:=O.A.len;have kx:=hF;simp[au] at kx;rw[ig,D3] at kx;have ac6:=ok.st _ _ _ _ _ hF;have ac5:=ok.st _ _ _ _ _ FZ;have Vz:=ok.st _ _ _ _ _ mL;have wN:=ok.st _ _ _ _ _ dS;have oF:=ok.bA hF;have oX2:=ok.bA dS;obtain⟨hVl,YU|⟨b,Q1,PU,hVc⟩⟩:=(R.ps q (dk hq)).2
 .omega
 obtain⟨vs,o,s,hb,ho,Hc,xp⟩:=O.os.V b PU;have jl:=R.P.len;have wk:=wrap_i64 ((k:Int)+1) (by omega) (by omega);simp at mL;rw[Q1] at mL;unfold Jm;simp[f0,f8,f9,f10,f13,f14,f15,kx,uw,HC,mL,dS,wk,-ag,aq kx,aq mL,aq dS,ay,aI,oF,oX2];refine aQ.cut (fun h2=>ab aG h h2/\h.clock<=h2.clock/\h2.tr.get h.next=some (.aA [.bool v.1,.int .i64 v.2] false 0 0)) ?_ ?_
 .exact⟨(aW ok).trans (aO (aW ok).ok _ _),Nat.le_succ _,by simp⟩
 rintro h2 ⟨g2,IQ,KM⟩;have dq:=g2.get ok hb (fun h=>h);have IK:=g2.get ok FZ (fun h=>h);have vG:=g2.get ok kx (fun h=>h);have amE:=g2.get ok dS (fun h=>h);have O2:=O.bt ok g2;refine aQ.call (V:=TV q.2 b o vs (q.2.l-1) (false,0) h2) (by simpa [Q1] using GJ g2.ok (F:=q.2) Q1 (by omega) hVl ho dq k hk K0) ?_;rintro _ h3 ⟨F3,vs3,rfl,ha3,Y0,hc3,g3,⟨s3,Bk⟩,hvl3,hvv3⟩;have O3:=O2.Bz g2.ok PU g3 ⟨s3,Bk⟩ ho (by omega) (fun v hv=>by
  rcases hvv3 v hv with h|h
  .exact xp v h
  .rw[h];intro h;cases h)
 have nb1: ¬h.next=b:=fun e=>by have:=ok.wf _ _ hb;omega
 have nb2: ¬X2=b:=fun e=>by rw[e] at κ2;omega
 have nbF: ¬F=b:=fun e=>by rw[e] at κF;omega
 have nbB: ¬bB=b:=fun e=>by rw[e] at κB;omega
 have Mz:=g3.get g2.ok KM nb1;have amF:=g3.get g2.ok amE nb2;have vH:=g3.get g2.ok vG nbF;have IL:=g3.get g2.ok IK nbB;simp[f15,amF,Mz,wN];have rY:bc h3 h.next 0 2=some [.bool v.1,.int .i64 v.2]:=by rw[cy Mz (by simp)];rfl
 refine aQ.call (V:=TV F3 b o vs3 (F3.l+1) v h3) (by simpa using Rq g3.ok (F:=F3) (by rw[ha3,Q1]) (by omega) (by omega) ho Bk Mz rY (Ne.symm nb1) j (by omega) (by omega)) ?_;rintro _ h4 ⟨F4,vs4,rfl,ha4,Re,hc4,g4,⟨s4,Gc⟩,hvl4,hvv4⟩;have O4:=O3.Bz g3.ok PU g4 ⟨s4,Gc⟩ ho (by omega) (fun w hw=>by
  rcases hvv4 w hw with h|h
  .rcases hvv3 w h with h|h
   .exact xp w h
   .rw[h];intro h;cases h
  .rw[h];exact hv)
 have F9:=g4.get g3.ok vH nbF;have al7:=g4.get g3.ok IL nbB;have R4:=(O4.os.r y r hr).P;obtain⟨bP,Ys,oP,sP,oZ,hPb,hjP,KW,Vt,Lc⟩:=R4.el hq;have κP:κ bP=3:=R.kP bP (bU oZ);have NO:=KW 1 1 (by decide);simp at NO;have eP:r.P.v= .slice (some ⟨bP,0,none⟩) r.ps.length r.P.c:=by rw[show r.P.v= .slice r.P.a r.P.l r.P.c from rfl,oZ,jl]
 have gw:ab (· =bP) h4 (put h4 bP (i*2+1) Ys [.slice F4.a F4.l F4.c] oP):=aM g4.ok hPb;have gw':ab (ax r.P.v) h4 (put h4 bP (i*2+1) Ys [.slice F4.a F4.l F4.c] oP):=gw.bJ (fun x _ e=>e▸bU oZ);have A5:=Lc (q.1,F4) 1 [.slice F4.a F4.l F4.c] (by simp) rfl (put h4 bP (i*2+1) Ys [.slice F4.a F4.l F4.c] oP) ⟨_,aD _ _ _ _ _ _⟩;simp[F9,al7,ac6,ac5,oZ,jl,acz,hPb,NO];refine C _ _ F4 ?_ ?_ (by omega) ⟨O4.os.SF g4.ok hr gw' A5 rfl (fun p hp=> ?_),?_,O4.kB⟩
 .repeat (refine aw.set ?_)
  exact aw.refl _ _
 .have w1: ∀x,x=b->(κ x=1\/κ x=3):=fun x e=> .inl (by rw[e];exact PU);exact((g2.bt.trans (g3.bJ (fun x _ e=>w1 x e))).trans (g4.bJ (fun x _ e=>w1 x e))).trans (gw.bJ (fun x _ e=> .inr (by rw[e];exact κP)))
 .rcases KG hp with h|h
  .exact R.ps p h
  .rw[h];exact⟨(R.ps q (dk hq)).1,by show F4.l<=F4.c;omega,.inr ⟨b,by show F4.a=_;rw[ha4,ha3,Q1],PU,by show F4.c=_;omega⟩⟩
 .refine zQ (O4.A.grow g4.ok gw (fun x hx e=>by have:=O4.kB x hx;rw[e] at this;omega)) (by simp) (fun m a c h1 h2=> ?_);rw[eR] at h2;by_cases e1:y=m
  .subst e1;rw[aU rfl,aU uw] at h2;cases h2;rw[hr] at h1;cases h1;rfl
  .rw[aT e1] at h2;rw[h1] at h2;cases h2;rfl
def afl:List Nat:=[13,14,15,69,70,71,72,73,74,75,76,77,78,79,80,81,82,83,84,85,86,87,88,89,90,91,92,93,94,95,96,97,98,99,100]
def mN (qs ps:List (Int×SV)):Prop:=qs.length=ps.length/\ ∀(i:Nat) (q p:Int×SV),qs[i]? =some q->ps[i]? =some p->q.1=p.1/\q.2.l=p.2.l
theorem mN.refl (ps:List (Int×SV)):mN ps ps:=⟨rfl,fun i q p a b=>by rw[a] at b;cases b;exact⟨rfl,rfl⟩⟩
theorem mN.trans {a b c:List (Int×SV)} (h:mN a b) (k:mN b c):mN a c:=⟨h.1.trans k.1,fun i q p h1 h2=>by obtain⟨x,hx⟩: ∃x,b[i]? =some x:=⟨_,aX (by rw[<-h.1];exact(bY.mp h1).1)⟩;obtain⟨a1,a2⟩:=h.2 i q x h1 hx;obtain⟨b1,b2⟩:=k.2 i x p hx h2;exact⟨a1.trans b1,a2.trans b2⟩⟩
theorem mN.set {qs ps:List (Int×SV)} (h:mN qs ps) {i:Nat} {q:Int×SV} (hq:qs[i]? =some q) {F:SV} (hF:F.l=q.2.l):mN (qs.set i (q.1,F)) ps:=by
 refine mN.trans ⟨by simp,fun j a b h1 h2=> ?_⟩ h;rw[eR] at h1;by_cases e:i=j
 .subst e;rw[aU rfl,aU (bY.mp hq).1] at h1;cases h1;rw[hq] at h2;cases h2;exact⟨rfl,hF⟩
 .rw[aT e,h2] at h1;cases h1;exact⟨rfl,rfl⟩
def akS (h:ae) (n0 ai:Nat) (κ cap:Nat->Nat) (B:SV) (rs:List XR) (y:Nat) (r:XR) (e:Env) (m:Nat) (e':Env) (h':ae):Prop:=
 ∃(i:Nat) (qs:List (Int×SV)),m=r.ps.length-i/\i<=r.ps.length/\aw afl e e'/\Env.get e' 69= .int .i64 i/\ab (fun b=>κ b=1\/κ b=3) h h'/\mF h' n0 ai κ cap B (rs.set y { r with ps:=qs })/\mN qs r.ps
theorem WQ (ok:bu h) (O:mF h n0 ai κ cap B rs) (um:n0<=h.next) {F y k j l sF:Nat} (hF:h.tr.get F=some (.aA (au name p rg B) false 0 sF)) (κF:κ F=0) (hr:rs[y]? =some r)
  (hl: ∀q∈r.ps,q.2.l=l) (hk:k<l) (hj:j+1<=l) (Ed:l<1000000) (va:r.ps.length<1000000)
  {e:Env} {Q:aP->Env->ae->Prop} (f0:Env.get e 0= .pointer (some ⟨F,0,none⟩)) (f8:Env.get e 8= .int .i64 y) (f9:Env.get e 9= .int .i64 k) (f10:Env.get e 10= .int .i64 j) (f67:Env.get e 67=r.P.v) (f68:Env.get e 68= .int .i64 r.ps.length) (f69:Env.get e 69= .int .i64 0)
  (C: ∀e' h' qs,aw afl e e'->ab (fun b=>κ b=1\/κ b=3) h h'->mF h' n0 ai κ cap B (rs.set y { r with ps:=qs })->mN qs r.ps->Q (.exit 4) e' h'):aB FF (.loop pw) e h Q:=by
 have uw:=(bY.mp hr).1;have Aa:rs.set y { r with ps:=r.ps } =rs:=by
  refine zV fun m=> ?_;rw[eR];by_cases e:y=m
  .subst e;rw[aU rfl,aU uw,hr]
  .rw[aT e]
 refine aB.loop (akS h n0 ai κ cap B rs y r e) ?_ (n:=r.ps.length) ⟨0,r.ps,rfl,by omega,aw.refl _ _,f69,.refl ok,by rw[Aa];exact O,mN.refl _⟩;rintro m e' h' ⟨i,qs,rfl,hi,K,q69,g,O',S⟩;have bX:=g.ok;have q0:=K.at f0;have q8:=K.at f8;have q9:=K.at f9;have Cm:=K.at f10;have q67:=K.at f67;have q68:=K.at f68;unfold pw;by_cases ff:i<r.ps.length
 .have wi:=wrap_i64 ((i:Int)+1) (by omega) (by omega);obtain⟨p0,Tp⟩: ∃p,r.ps[i]? =some p:=⟨_,aX ff⟩;obtain⟨q,hq⟩: ∃q,qs[i]? =some q:=⟨_,aX (by rw[S.1];exact ff)⟩;have K0:q.2.l=l:=by rw[(S.2 i q p0 hq Tp).2];exact hl p0 (dk Tp)
  have ky:(rs.set y { r with ps:=qs })[y]? =some { r with ps:=qs } :=by rw[eR,aU rfl,aU uw]
  have R:=O'.os.r y _ ky;have RP:e_ jR h' r.P qs:=R.P;obtain⟨hVl,YU|⟨b,Q1,PU,hVc⟩⟩:=(R.ps q (dk hq)).2
  .omega
  obtain⟨vs,o,s,hb,ho,Hc,xp⟩:=O'.os.V b PU;obtain⟨v,hv⟩: ∃v,vs[k]? =some v:=⟨_,aX (by omega)⟩;obtain⟨bP,Ys,oP,sP,oZ,hPb,hjP,KW,Vt,Lc⟩:=RP.el hq;have r0:=Vt 0 2 (by decide);simp[-ag] at r0;have jl:=RP.len;have rv:bc h' b (k*2) 2=some [.bool v.1,.int .i64 v.2]:=by rw[cy hb (by rw[cr.bC,eu];omega)];have:=cr.lZ vs k v hv;simp only[eu] at this;rw[this];rfl
  simp at q67;rw[oZ,jl,S.1] at q67;have qK:k<q.2.l:=by omega
  have ob:=bX.bA hb;have nb1: ¬b=h'.next:=by have:=ob.lt;omega
  have nb2: ¬b=h'.next+1:=by have:=ob.lt;omega
  simp[q67,q68,q69,q9,ff,qK,r0,rv,Q1,ob,nb1,nb2,-ag,av,bg,aI,ay];refine aB.cut (fun h2=>ab aG h' h2/\(∃s,h2.tr.get h'.next=some (.aA [.int .i64 q.1,q.2.v] false 0 s))/\ ∃s,h2.tr.get (h'.next+1)=some (.aA [.bool v.1,.int .i64 v.2] false 0 s)) ?_ ?_
  .have n1: ¬h'.next=h'.next+1:=by omega
   exact⟨((ab.refl bX).var _ _).var _ _,⟨h'.clock,by simp[aJ,Q1,n1]⟩,⟨h'.clock+1,by simp[aJ]⟩⟩
  rintro h2 ⟨g2,mL,dS⟩;have ln:=g.next;have κn: ∀x,h'.next<=x->κ x=0:=fun x hx=>by
   rcases tP (κ x) with h|h
   .exact h
   .have:=(O'.os.new x (by omega)).2;omega
  refine WO g2.ok (O'.bt bX g2) (F:=F) (X1:=h'.next) (X2:=h'.next+1) (y:=y) (i:=i) (k:=k) (j:=j) (v:=v) (q:=q) (g2.get bX (g.get ok hF (by omega)) (fun h=>h)) κF ky hq mL (κn _ (by omega)) dS (κn _ (by omega)) (xp v (dk hv)) (by omega) (by omega) (by omega) (by show qs.length<_;rw[S.1];exact va) (by simp[q0]) (by simp[q8]) (by simp[q9]) (by simp[Cm]) (by simp) (by simp) (by simp) ?_;intro e3 h3 F' K3 g3 sD O3;have k69:=K3.at (t:=69) (by simp;exact q69);rw[List.set_set] at O3;simp[k69,wi];refine⟨r.ps.length-(i+1),by omega,i+1,qs.set i (q.1,F'),rfl,ff,?_,by simp,g.trans (g2.bt.trans g3),O3,S.set hq sD⟩;refine aw.set (aw.set (aw.trans ?_ (K3.bJ)))
  repeat (refine aw.set ?_)
  exact K
 .have:i=r.ps.length:=by omega
  subst this;simp[q68,q69];exact C _ _ qs (aw.set K) g O' S
end Go.Proofs.YtdhnndleffachaaGreatDoor
namespace Go.AI.Edge
variable {p x:Nat} {t:Int} {ts:List Int}
def Cy (cT:List (List Int)) (x:Nat):Prop:= ∀S:Nat->Prop,S 0->(∀a ts,S a->cT[a]? =some ts-> ∀t∈ts,S t.toNat)->S x
theorem Cy.zero (cT:List (List Int)):Cy cT 0:=fun _ h _=>h
theorem Cy.step {cT:List (List Int)} {a:Nat} {ts:List Int} (h:Cy cT a) (ha:cT[a]? =some ts) {t:Int} (ht:t∈ts):Cy cT t.toNat:=fun S h0 hs=>hs a ts (h S h0 hs) ha t ht
def vf (cT:List (List Int)):List (List Nat):=cT.map (·.map Int.toNat)
theorem AE {cT:List (List Int)} (h:x∈Dfs.row (vf cT) p): ∃ts t,cT[p]? =some ts/\t∈ts/\x=t.toNat:=by
 unfold Dfs.row vf at h;rw[tQ] at h;cases hp:cT[p]? with
 |none=>rw[hp] at h;simp at h
 |some ts=>
  rw[hp] at h;simp at h;obtain⟨t,ht,e⟩:=h;exact⟨ts,t,rfl,ht,e.symm⟩
theorem Sr {cT:List (List Int)} (hp:cT[p]? =some ts) (ht:t∈ts):t.toNat∈Dfs.row (vf cT) p:=by unfold Dfs.row vf;rw[tQ,hp];simp;exact⟨t,ht,rfl⟩
theorem LJ {cT:List (List Int)} (h0:0<cT.length) (Ej: ∀ts∈cT,∀t∈ts,t.toNat<cT.length) (x:Nat):x∈Dfs.lH (vf cT) cT.length↔Cy cT x:=by
 obtain⟨nd,lt,⟨new,e0⟩,cl,up⟩:=Dfs.xC (dw:=vf cT) h0 (fun b t ht=>by obtain⟨ts,u,h1,h2,rfl⟩:=AE ht;exact Ej ts (dk h1) u h2)
 constructor
 .
  intro hx;obtain⟨l1,l2,e⟩:=List.append_of_mem hx;have key: ∀(n:Nat) (l1 l2:List Nat) (x:Nat),l2.length<=n->Dfs.lH (vf cT) cT.length=l1++x::l2->Cy cT x:=by
   intro n;induction n with
   |zero=>
    intro l1 l2 x hl e;have:l2=[]:=KF (by omega);subst this;rw[e0] at e;have:=(List.append_inj' e rfl).2;cases this;exact Cy.zero _
   |succ n ih=>
    intro l1 l2 x hl e;by_cases Le:x=0
    .subst Le;exact Cy.zero _
    .obtain⟨p,hp,m1,m2,em,JR⟩:=up x (by rw[e];simp) Le;have e2:l1++x::l2=m1++x::m2:=by rw[<-e,<-em]
     have nd':(l1++x::l2).Nodup:=by rw[<-e];exact nd
     have cn:l1.length=m1.length:=by
      have i1:(l1++x::l2)[l1.length]? =some x:=by simp
      have i2:(l1++x::l2)[m1.length]? =some x:=by rw[e2];simp
      have h1:=(bY.mp i1);have h2:=(bY.mp i2);obtain⟨a1,a2⟩:=h1;obtain⟨b1,b2⟩:=h2;exact(List.getElem_inj nd').1 (a2.trans b2.symm)
     have e3:=(List.append_inj e2 cn).2;cases e3;obtain⟨k1,k2,ek⟩:=List.append_of_mem JR;have hr:=ih (l1++x::k1) k2 p (by rw[ek] at hl;simp at hl;omega) (by rw[e,ek];simp);obtain⟨ts,t,h1,h2,rfl⟩:=AE hp;exact hr.step h1 h2
  exact key l2.length l1 l2 x (dK _) e
 .intro h;refine h (fun y=>y∈Dfs.lH (vf cT) cT.length) (by rw[e0];simp) (fun a ts ha jT t ht=>cl a ha _ (Sr jT ht))
theorem Cy.tD {cT JI:List (List Int)} {aK:List Nat} (nd:aK.Nodup) (h00:aK[0]? =some 0) (cl: ∀x∈aK,∀ts,cT[x]? =some ts-> ∀t∈ts,t.toNat∈aK)
  (jT: ∀(i k:Nat),aK[i]? =some k-> ∃ts BC,cT[k]? =some ts/\JI[i]? =some BC/\BC.length=ts.length/\ ∀(j:Nat) (t t':Int),ts[j]? =some t->BC[j]? =some t'->0<=t'/\aK[t'.toNat]? =some t.toNat)
  {i k:Nat} (hk:aK[i]? =some k) (h:Cy cT k):Cy JI i:=by
 intro S h0 hs;have:=h (fun x=> ∃j,aK[j]? =some x/\S j) ⟨0,h00,h0⟩ (by rintro a ts ⟨j,hj,hS⟩ ha t ht;obtain⟨ts1,BC,e1,e2,e3,e4⟩:=jT j a hj;rw[ha] at e1;cases e1;obtain⟨m,hm⟩:=rT ht;have Vi:=(bY.mp hm).1;obtain⟨t',zp⟩: ∃t',BC[m]? =some t':=⟨_,aX (by omega)⟩;obtain⟨_,h6⟩:=e4 m t t' hm zp;exact⟨t'.toNat,h6,hs j BC hS e2 t' (dk zp)⟩)
 obtain⟨j,hj,hS⟩:=this;have a1:=bY.mp hk;have a2:=bY.mp hj;obtain⟨b1,b2⟩:=a1;obtain⟨c1,c2⟩:=a2;have:i=j:=(List.getElem_inj nd).1 (b2.trans c2.symm);subst this;exact hS
section
variable {cT:List (List Int)} {b to:Nat} {t:Int} {Xq:List Int}
def qI (cT:List (List Int)) (b to:Nat) (Xq:List Int):List (List Int):=(cT.set b Xq).set to []
theorem qh (hb:cT[b]? =some [(to:Int)]) (ht:cT[to]? =some Xq) (cJ:to≠b) (u i:Nat):qg (qI cT b to Xq) u i=if i=to then 0 else if i=b then qg cT u to else qg cT u i:=by
 have pc:=(bY.mp hb).1;have pK:=(bY.mp ht).1;unfold qg qI;by_cases h1:i=to
 .subst h1;rw[aU rfl,eR,aU rfl,aU (by simpa using pK)];rfl
 .rw[aT h1,eR,aT (Ne.symm h1),eR];by_cases h2:i=b
  .subst h2;rw[aU rfl,aU rfl,aU pc,ht]
  .rw[aT (Ne.symm h2),aT h2]
theorem Qq (f g:Nat->Nat) (x y:Nat) (cJ:x≠y) (h: ∀i,i≠x->i≠y->f i=g i): ∀n,((List.range n).map f).sum+(if x<n then g x else 0)+(if y<n then g y else 0)=((List.range n).map g).sum+(if x<n then f x else 0)+(if y<n then f y else 0):=by
 intro n;induction n with
 |zero=>simp
 |succ n ih=>
  rw[List.range_succ,List.map_append,List.map_append,List.sum_append_nat,List.sum_append_nat];simp only[Fw,List.map_nil,Mu,List.sum_nil,ID];have st: ∀(v z:Nat),(if z<n+1 then v else 0)=(if z<n then v else 0)+(if n=z then v else 0):=by
   intro v z;by_cases h1:z<n
   .rw[aU h1,aU (by omega),aT (by omega)];rfl
   .by_cases h2:n=z
    .rw[aT h1,aU (by omega),aU h2];omega
    .rw[aT h1,aT (by omega),aT h2]
  rw[st,st,st,st];by_cases h1:n=x
  .have h2: ¬n=y:=by omega
   simp only[aU h1,aT h2];subst h1;omega
  .by_cases h2:n=y
   .simp only[aT h1,aU h2];subst h2;omega
   .have:=h n h1 h2;simp only[aT h1,aT h2];omega
theorem Qt (n:Nat) (f g:Nat->Nat) (x y:Nat) (hx:x<n) (hy:y<n) (cJ:x≠y) (h: ∀i,i≠x->i≠y->f i=g i) (he:f x+f y=g x+g y):((List.range n).map f).sum=((List.range n).map g).sum:=by have:=Qq f g x y cJ h n;rw[aU hx,aU hy,aU hx,aU hy] at this;omega
theorem OT (n:Nat) (f g:Nat->Nat) (x y:Nat) (hx:x<n) (hy:y<n) (cJ:x≠y) (h: ∀i,i≠x->i≠y->f i=g i) (he:f x+f y<=g x+g y):((List.range n).map f).sum<=((List.range n).map g).sum:=by have:=Qq f g x y cJ h n;rw[aU hx,aU hy,aU hx,aU hy] at this;omega
theorem Sq (hb:cT[b]? =some [(to:Int)]) (ht:cT[to]? =some Xq) (cJ:to≠b) {u:Nat} (hu:u≠to):(rowOf (qI cT b to Xq) u cT.length).length=(rowOf cT u cT.length).length:=by
 have pc:=(bY.mp hb).1;have pK:=(bY.mp ht).1;rw[lI,lI];refine Qt _ _ _ to b pK pc cJ (fun i h1 h2=>by rw[qh hb ht cJ,aT h1,aT h2]) ?_;rw[qh hb ht cJ,qh hb ht cJ,aU rfl,aT (Ne.symm cJ),aU rfl];have:qg cT u b=0:=by unfold qg;rw[hb];show [((to:Int)).toNat].count u=0;rw[UI,List.count_eq_zero];simpa using hu
 omega
theorem Jr (hb:cT[b]? =some [(to:Int)]) (ht:cT[to]? =some Xq) (cJ:to≠b) (u:Nat):(rowOf (qI cT b to Xq) u cT.length).length<=(rowOf cT u cT.length).length:=by have pc:=(bY.mp hb).1;have pK:=(bY.mp ht).1;rw[lI,lI];refine OT _ _ _ to b pK pc cJ (fun i h1 h2=>by rw[qh hb ht cJ,aT h1,aT h2]) ?_;rw[qh hb ht cJ,qh hb ht cJ,aU rfl,aT (Ne.symm cJ),aU rfl];omega
theorem Ht (hb:cT[b]? =some [(to:Int)]) (h1:(rowOf cT to cT.length).length<=1) {a:Nat} (ha:cT[a]? =some ts) (h:t∈ts) (he:t.toNat=to):a=b:=by
 have pc:=(bY.mp hb).1;have C0:=(bY.mp ha).1;rcases AV 0 (if a=b then 0 else 1) with hc|hc
 .have cJ:a≠b:=by intro e;rw[aU e] at hc;omega
  rw[lI] at h1;have c1:1<=qg cT to b:=by unfold qg;rw[hb];simp
  have c2:1<=qg cT to a:=by unfold qg;rw[ha];show 1<=(ts.map Int.toNat).count to;exact List.count_pos_iff.2 (j9.2 ⟨t,h,he⟩)
  have:2<=((List.range cT.length).map fun i=>qg cT to i).sum:=by
   have e1:((List.range cT.length).map fun i=>if i=a then qg cT to a else if i=b then qg cT to b else 0).sum<=((List.range cT.length).map fun i=>qg cT to i).sum:=by
    generalize cT.length=n;induction n with
    |zero=>exact dK _
    |succ n ih=>
     rw[List.range_succ,List.map_append,List.map_append,List.sum_append_nat,List.sum_append_nat];refine Nat.add_le_add ih ?_;simp only[Fw,List.map_nil,Mu,List.sum_nil,ID];split
     .rename_i e;subst e;exact dK _
     .split
      .rename_i e;subst e;exact dK _
      .exact Nat.zero_le _
   have e2:=Qt cT.length (fun i=>if i=a then qg cT to a else if i=b then qg cT to b else 0) (fun i=>if i=a then qg cT to a+qg cT to b else 0) a b C0 pc cJ (fun i h1 h2=>by simp only[aT h1,aT h2]) (by simp only[if_true,aT (Ne.symm cJ)];omega);have e3: ∀n,a<n->qg cT to a+qg cT to b<=((List.range n).map fun i=>if i=a then qg cT to a+qg cT to b else 0).sum:=by
    intro n hn;induction n with
    |zero=>omega
    |succ n ih=>
     rw[List.range_succ,List.map_append,List.sum_append_nat];simp only[Fw,List.map_nil,Mu,List.sum_nil,ID];by_cases e:n=a
     .rw[aU e];omega
     .have:=ih (by omega);omega
   have:=e3 _ C0;rw[<-e2] at this;omega
  omega
 .by_cases e:a=b
  .exact e
  .rw[aT e] at hc;omega
theorem Cy.chain (hb:cT[b]? =some [(to:Int)]) (ht:cT[to]? =some Xq) (cJ:to≠b) (h0:to≠0) (h1:(rowOf cT to cT.length).length<=1) (hx:Cy cT x) (hxt:x≠to):Cy (qI cT b to Xq) x:=by
 have pc:=(bY.mp hb).1;have pK:=(bY.mp ht).1;intro S s0 hs;have:=hx (fun y=>if y=to then S b else S y) (by simp only[aT (Ne.symm h0)];exact s0) (by
  intro a ts ha jT t htm;by_cases ea:a=to
  .subst ea;rw[aU rfl] at ha;rw[ht] at jT;cases jT;have hn:t.toNat≠a:=fun e=>cJ (Ht hb h1 ht htm e);rw[aT hn];exact hs b Xq ha (by unfold qI;rw[eR,aT cJ,eR,aU rfl,aU pc]) t htm
  .rw[aT ea] at ha;by_cases eb:a=b
   .subst eb;rw[hb] at jT;cases jT;simp at htm;subst htm;simp only[UI,if_true];exact ha
   .have hn:t.toNat≠to:=fun e=>eb (Ht hb h1 jT htm e);rw[aT hn];exact hs a ts ha (by unfold qI;rw[eR,aT (Ne.symm ea),eR,aT (Ne.symm eb)];exact jT) t htm)
 rw[aT hxt] at this;exact this
end
end Go.AI.Edge
namespace Go.Proofs.YtdhnndleffachaaGreatDoor
open Go.AI
variable {B L':SV} {I9:List XI} {ai b i n0 to:Nat} {cap κ κ0:Nat->Nat} {h:ae} {name:ByteArray} {p rg:Int} {ps:List Int} {r rb rt:XR} {rs zq:List XR}
def RnC:List Nat:=[10,12,45,46,47,48,49,50,51,52,53,54,55,56,57,58,59]
def Jh (bA:Int) (l:List Int):Nat:=(l.filter fun x=> !(x==bA)).length
def afn (h:ae) (ps:List Int) (bA:Int) (e:Env) (m:Nat) (e':Env) (h':ae):Prop:=
 ∃t j:Nat,m=ps.length-t/\t<=ps.length/\aw RnC e e'/\Env.get e' 45= .int .i64 t/\Env.get e' 10= .int .i64 j/\h'=h/\j<=Jh bA (ps.take t)
theorem adK {bA:Int} (h:bA∈ps):Jh bA ps<ps.length:=by
 obtain⟨l1,l2,rfl⟩:=List.append_of_mem h;unfold Jh;have h1:=QT (fun x:Int=> !(x==bA)) l1;have h2:=QT (fun x:Int=> !(x==bA)) l2;have h3:(!(bA==bA))=false:=by simp
 rw[List.filter_append,List.filter_cons,h3];simp only[IG,List.length_cons,PG,if_false];omega
theorem Sk {W:SV} (hW:bk bp h W.v ps) (hl:ps.length<1000000) {bA now:Nat}
  {e:Env} {Q:aP->Env->ae->Prop} (f1:Env.get e 1= .int .i64 bA) (f2:Env.get e 2= .int .i64 now) (f10:Env.get e 10= .int .i64 0) (f43:Env.get e 43=W.v) (f44:Env.get e 44= .int .i64 ps.length) (f45:Env.get e 45= .int .i64 0)
  (C: ∀e' j,aw RnC e e'->Env.get e' 10= .int .i64 (j:Nat)->j<=Jh bA ps->Q (.exit 2) e' h):aB FF (.loop px) e h Q:=by
 have NK:W.l=ps.length:=by obtain⟨a,cap,e,_⟩:=hW;simp at e;exact e.2.1
 refine aB.loop (afn h ps bA e) ?_ (n:=ps.length) ⟨0,0,rfl,by omega,aw.refl _ _,f45,f10,rfl,Nat.zero_le _⟩;rintro m e' h' ⟨t,j,rfl,ht,K,OC,Cm,rfl,hj⟩;have q1:=K.at f1;have q2:=K.at f2;have Qh:=K.at f43;have Jk:=K.at f44;unfold px;by_cases pK:t<ps.length
 .have wt:=wrap_i64 ((t:Int)+1) (by omega) (by omega);have hjt:Jh bA (ps.take t)<=t:=ug (QT _ _) (by simp;omega);have wj:=wrap_i64 ((j:Int)+1) (by omega) (by omega);have hx:ps[t]? =some ps[t]:=aX pK;generalize ps[t]=x at hx;obtain⟨bW,aoV,alF,hWv,_,_,dy⟩:=hW.read hx;have r1:=dy 0 1 (by decide);simp[-ag] at r1 hWv Qh;rw[hWv.1,NK] at Qh;have Hb:ps.take (t+1)=ps.take t++[x]:=by rw[yn,hx];rfl
  have Ws:Jh bA (ps.take (t+1))=Jh bA (ps.take t)+(if x==(bA:Int) then 0 else 1):=by unfold Jh;rw[Hb,List.filter_append,IG];by_cases e:x=(bA:Int)<;>simp[e]
  have fin: ∀(e2:Env) (j':Nat),aw RnC e e2->Env.get e2 45= .int .i64 ((t:Int)+1)->Env.get e2 10= .int .i64 (j':Nat)->j'<=Jh bA (ps.take (t+1))-> ∃m,m<ps.length-t/\afn h' ps bA e m e2 h':=by intro e2 j' K2 k45 k10 Ra;exact⟨ps.length-(t+1),by omega,t+1,j',rfl,pK,K2,by rw[k45];rfl,k10,rfl,Ra⟩
  by_cases c1:x<(now:Int)
  .by_cases c2:x=(bA:Int)
   .have c3:(x !=(bA:Int))=false:=by simp[c2]
    simp[q1,q2,Qh,Jk,OC,Cm,pK,r1,c1,c3,wt,-ag];refine fin _ j ?_ (by simp) (by simp[Cm]) (by rw[Ws];omega)
    repeat (refine aw.set ?_)
    exact K
   .have c3:(x !=(bA:Int))=true:=by simp[c2]
    have c4:(x==(bA:Int))=false:=by simp[c2]
    rw[c4] at Ws;simp at Ws;simp[q1,q2,Qh,Jk,OC,Cm,pK,r1,c1,c3,wt,wj,-ag];refine fin _ (j+1) ?_ (by simp) (by simp) (by rw[Ws];omega)
    repeat (refine aw.set ?_)
    exact K
  .simp[q1,q2,Qh,Jk,OC,Cm,pK,r1,c1,wt,-ag];refine fin _ j ?_ (by simp) (by simp[Cm]) (by rw[Ws];omega)
   repeat (refine aw.set ?_)
   exact K
 .have:t=ps.length:=by omega
  subst this;simp[Jk,OC];exact C _ j (aw.set K) (by simp[Cm]) (by rw[xV] at hj;exact hj)
def mV (bH rs:List XR):Prop:=bH.length=rs.length/\ ∀(i:Nat) (r' r:XR),bH[i]? =some r'->rs[i]? =some r->r'= { r with ps:=r'.ps } /\mN r'.ps r.ps
theorem mV.refl (rs:List XR):mV rs rs:=⟨rfl,fun i a b h1 h2=>by rw[h1] at h2;cases h2;exact⟨rfl,mN.refl _⟩⟩
theorem mV.set {bH rs:List XR} (h:mV bH rs) {y:Nat} {r:XR} (hr:bH[y]? =some r) {qs:List (Int×SV)} (hq:mN qs r.ps):mV (bH.set y { r with ps:=qs }) rs:=by
 refine⟨by simp[h.1],fun i a b h1 h2=> ?_⟩;rw[eR] at h1;by_cases e:y=i
 .subst e;rw[aU rfl,aU (bY.mp hr).1] at h1;cases h1;obtain⟨a1,a2⟩:=h.2 y r b hr h2;exact⟨by rw[a1],hq.trans a2⟩
 .rw[aT e] at h1;exact h.2 i a b h1 h2
def afm (n0 ai:Nat) (κ cap:Nat->Nat) (B:SV) (rs:List XR) (h:ae) (_:Value) (h':ae):Prop:=
 ab (fun b=>κ b=1\/κ b=3) h h'/\ ∃bH,mF h' n0 ai κ cap B bH/\mV bH rs
def akT (h:ae) (n0 ai:Nat) (κ cap:Nat->Nat) (B:SV) (rs:List XR) (c6:Value) (F:Nat) (bA now:Nat) (T:SV) (l:Nat) (m:Nat) (e:Env) (h':ae):Prop:=
 ∃(i:Nat) (bH:List XR),m=l-i/\i<=l/\Env.get e 0= .pointer (some ⟨F,0,none⟩)/\Env.get e 1= .int .i64 bA/\Env.get e 2= .int .i64 now/\Env.get e 6=c6/\Env.get e 28=T.v/\Env.get e 29= .int .i64 l/\Env.get e 30= .int .i64 i/\ab (fun b=>κ b=1\/κ b=3) h h'/\mF h' n0 ai κ cap B bH/\mV bH rs
def RowsIn (rs:List XR):Prop:= ∀(k:Nat) (r:XR) (pk:List Int),rs[k]? =some r->(Edge.bw (bz rs))[k]? =some pk-> ∀q∈r.ps,q.2.l=pk.length
theorem LK (ok:bu h) (O:mF h n0 ai κ cap B rs) (um:n0<=h.next) {F sF:Nat} (hF:h.tr.get F=some (.aA (au name p rg B) false 0 sF)) (κF:κ F=0) {bA now:Nat} {ro:XR} (JS:rs[bA]? =some ro) (T:TOk (bz rs)) (rows:RowsIn rs) (pl: ∀r∈rs,r.ps.length<1000000):
  aF FF yB [.pointer (some ⟨F,0,none⟩),.int .i64 bA,.int .i64 now] h (afm n0 ai κ cap B rs h):=by
 have pK:(bz rs).length=rs.length:=by simp[bz]
 have hn:=T.len;obtain⟨bs,IP,hV⟩:=O.view;have E:=hV.ends T;have Br:=hV.dw;have pc:bs.length=rs.length:=hV.1;have IW:=(bY.mp JS).1;have Ro:=O.os.r bA ro JS;have tC:=Ro.T.len;have κlow: ∀b,κ b≠0->b<h.next:=fun b hb=>(O.os.new b hb).2;have kx:=hF;simp[au] at kx;refine aF.of FR ?_;unfold ym;simp[kx];refine aE.call (V:=fun v h'=>ab aG h h'/\ ∃d ws,v= .slice (some ⟨d,0,none⟩) bs.length bs.length/\jm bp h.next h' d ws (Edge.bw (bj bs))) (by simpa [au] using jA ok (name:=name) (p:=p) (r:=rg) IP E) ?_;rintro _ h1 ⟨g1,d,ws,rfl,w1⟩;rw[Br] at w1;have O1:=O.bt ok g1;have wK:=g1.get ok kx (fun h=>h);have ab4:=g1.get ok hF (fun h=>h);obtain⟨bB,cs,oB,sB,ig,FZ,YZ,eH,dy,fH⟩:=O1.A.el JS;have HC:=dy 5 1 (by decide);simp[-ag] at HC;have D3:=O1.A.len;rw[ig,D3] at wK;simp[wK,IW,HC,tC,-ag,aq wK];refine aB.loop (akT h1 n0 ai κ cap B rs (.slice (some ⟨d,0,none⟩) bs.length bs.length) F bA now ro.T ro.ts.length) ?_ (n:=ro.ts.length)
  ⟨0,rs,rfl,by omega,by simp,by simp,by simp,by simp,by simp[tC],by simp,by simp,.refl g1.ok,O1,mV.refl _⟩
 rintro m e' h' ⟨i,bH,rfl,hi,q0,q1,q2,q6,HB,q29,TB,g,O',S⟩;have bX:=g.ok;unfold vz;by_cases ff:i<ro.ts.length
 .have wi:=wrap_i64 ((i:Int)+1) (by have:=T.two ro.ts (j9.2 ⟨ro,dk JS,rfl⟩);omega) (by have:=T.two ro.ts (j9.2 ⟨ro,dk JS,rfl⟩);omega);obtain⟨t,ht⟩: ∃t,ro.ts[i]? =some t:=⟨_,aX ff⟩;obtain⟨Tq,htn⟩:=T.to ro.ts (j9.2 ⟨ro,dk JS,rfl⟩) t (dk ht);obtain⟨u,rfl⟩: ∃u:Nat,t=u:=⟨t.toNat,by omega⟩;have C6:u<rs.length:=by omega
  obtain⟨r0,AY⟩: ∃r0,rs[u]? =some r0:=⟨_,aX C6⟩;obtain⟨r1,o7⟩: ∃r1,bH[u]? =some r1:=⟨_,aX (by rw[S.1];exact C6)⟩;obtain⟨er,sl⟩:=S.2 u r1 r0 o7 AY;obtain⟨pk,zo⟩: ∃pk,(Edge.bw (bz rs))[u]? =some pk:=⟨_,aX (by rw[Edge.dz,pK];exact C6)⟩;obtain⟨wk,MF⟩: ∃wk,ws[u]? =some wk:=⟨_,aX (by rw[w1.len,Edge.dz,pK];exact C6)⟩;have Ej: ∀ts∈bz rs,∀t∈ts,t.toNat<(bz rs).length:=fun ts h t h2=>by have:=T.to ts h t h2;omega
  have uk:(bA:Int)∈pk:=by have:=(Edge.qk Ej (u:=u) (x:=(bA:Int))).2 ⟨bA,rfl,ro.ts,by simp[bz,JS],(u:Int),dk ht,by simp⟩;rw[zo] at this;exact this
  have anU:pk.length<=2000:=by
   have h1:=Edge.ox (n:=(bz rs).length) (dw:=bz rs) T.two u (bz rs).length;have h2:((Edge.upto (bz rs).length (bz rs) (bz rs).length)[u]?).getD []=pk:=by show((Edge.bw (bz rs))[u]?).getD []=pk;rw[zo];rfl
   rw[h2] at h1;omega
  have G7:=adK uk;have w':=w1.grow g1.ok g (fun b hb h=>by have:=κlow b (by omega);omega);obtain⟨sd,hd⟩:=w'.aA;have Yd:=ze hd MF;have hTs:=Di Ro.T.sl ok (g1.bt.trans g) (fun _ b hb h=>by have:=Ro.kT b hb;omega);obtain⟨bT,aoU,alE,hTv,_,_,N0⟩:=hTs.read ht;have rt:=N0 0 1 (by decide);simp[-ag] at rt hTv Yd;simp at HB;rw[hTv.1,tC] at HB;have hub:u<bs.length:=by omega
  simp[q6,q1,HB,q29,TB,ff,rt,Yd,hub,-ag];have XN:bk bp h' wk.v pk:=(w'.acc u wk pk MF zo).sl;refine aE.call (V:=fun v h2=>h2=h'/\ ∃k:Nat,v= .int .i64 k/\pk[k]? =some (bA:Int)) (by simpa using B9 XN (by omega) uk) ?_;rintro _ h2 ⟨rfl,k,rfl,hk⟩;have qK:=(bY.mp hk).1;have JT:wk.l=pk.length:=by obtain⟨a,cap,e,_⟩:=XN;simp at e;exact e.2.1
  simp[q6,q1,HB,q29,TB,Yd,hub,-ag];refine Sk (bA:=bA) (now:=now) XN (by omega) (by simp[q1]) (by simp[q2]) (by simp) (by simp) (by simp[JT]) (by simp) ?_;intro e3 j K3 k10 hj;have k0:=K3.at (t:=0) (by simp;exact q0);have k1:=K3.at (t:=1) (by simp;exact q1);have k2:=K3.at (t:=2) (by simp;exact q2);have k6:=K3.at (t:=6) (by simp;exact q6);have k8:Env.get e3 8= .int .i64 u:=K3.at (t:=8) (by simp);have k9:Env.get e3 9= .int .i64 k:=K3.at (t:=9) (by simp);have k28:=K3.at (t:=28) (by simp;exact HB);have k29:=K3.at (t:=29) (by simp;exact q29);have k30:=K3.at (t:=30) (by simp;exact TB);have sD:=g.get g1.ok wK (by omega);have vH:=g.get g1.ok ab4 (by omega);obtain⟨bB',Il,oB',sB',ov,QY,ag_,z7,Zc,Eh⟩:=O'.A.el o7;rw[ig] at ov;cases ov;have rd1:=Zc 0 1 (by decide);simp[-ag] at rd1;have R1:=O'.os.r u r1 o7;have jl:=R1.P.len;have X4:u<rs.length:=C6;simp[k0,k8,sD,X4,rd1,jl,-ag,aq sD];refine WQ bX O' (by have:=g1.next;have:=g.next;omega) (F:=F) (y:=u) (k:=k) (j:=j) (l:=pk.length) vH κF o7 (fun q hq=> ?_) qK (by omega) (by omega) (by rw[sl.1];exact pl r0 (dk AY)) (by simp[k0]) (by simp[k8]) (by simp[k9]) (by simp[k10]) (by simp[jl]) (by simp) (by simp) ?_
  .obtain⟨m,hm⟩:=rT hq;obtain⟨p0,Tp⟩: ∃p0,r0.ps[m]? =some p0:=⟨_,aX (by rw[<-sl.1];exact(bY.mp hm).1)⟩;rw[(sl.2 m q p0 hm Tp).2];exact rows u r0 pk AY zo p0 (dk Tp)
  intro e4 h4 qs K4 g4 O4 S4;have m0:=K4.at (t:=0) (by simp;exact k0);have m1:=K4.at (t:=1) (by simp;exact k1);have m2:=K4.at (t:=2) (by simp;exact k2);have m6:=K4.at (t:=6) (by simp;exact k6);have m28:=K4.at (t:=28) (by simp;exact k28);have m29:=K4.at (t:=29) (by simp;exact k29);have m30:=K4.at (t:=30) (by simp;exact k30);simp[m30,wi];exact⟨ro.ts.length-(i+1),by omega,i+1,bH.set u { r1 with ps:=qs },rfl,ff,by simp[m0],by simp[m1],by simp[m2],by simp[m6],by simp[m28,hTv.1,tC],by simp[m29],by simp,g.trans g4,O4,S.set o7 S4⟩
 .have:i=ro.ts.length:=by omega
  subst this;simp[q29,TB];exact⟨(g1.bt.trans g),bH,O',S⟩
def oN (r:XR):Nat:=r.ps.length+r.ls.length
abbrev Sh:Type:=Int×(Bool×Int)×(Bool×Int)
def Ye (v:Bool×Int):Bool×Int:=(v.1,if v.1 then 0 else v.2)
def MK (x:XI):Sh:=(x.op,Ye x.a,Ye x.b)
def rR (φ:Sh->Bool) (ls:List XI):Nat:=(ls.filter fun x=>φ (MK x)).length
def fN (φ:Sh->Bool) (rs:List XR):Nat:=(rs.map fun r=>rR φ r.ls).sum
def TM (r:XR):Prop:=(r.kind=1/\r.ts=[])\/(r.kind=2/\ ∃t,r.ts=[t])\/(r.kind=3/\ ∃t u,r.ts=[t,u])
structure TF0 (rs:List XR):Prop where
 n1:0<rs.length
 Ez:rs.length<=72
 kind: ∀r∈rs,TM r
 to: ∀r∈rs,∀t∈r.ts,1<=t/\t<rs.length
 rows: ∀(k:Nat) (r:XR),rs[k]? =some r-> ∀q∈r.ps,q.2.l=(Edge.rowOf (bz rs) k rs.length).length
 sum:(rs.map oN).sum<=100000
 al: ∀r∈rs,∀x∈r.ls,x.args.l<=1048576
 short: ∀k,k<rs.length->(Edge.rowOf (bz rs) k rs.length).length<50
def Seen (rs:List XR):Prop:= ∀(k:Nat) (r:XR),rs[k]? =some r->Edge.Cy (bz rs) k\/(r.kind=1/\r.ps=[]/\r.ls=[])
structure TF (rs:List XR):Prop extends TF0 rs where
 seen: ∀(k:Nat) (r:XR),rs[k]? =some r->Edge.Cy (bz rs) k\/(r.kind=1/\r.ps=[]/\r.ls=[])
theorem dx (rs:List XR):(bz rs).length=rs.length:=by simp[bz]
theorem tj {k:Nat} (h:rs[k]? =some r):(bz rs)[k]? =some r.ts:=by simp[bz,h]
theorem TF0.two (w:TF0 rs): ∀r∈rs,r.ts.length<=2:=fun r hr=>by rcases w.kind r hr with⟨_,h⟩|⟨_,t,h⟩|⟨_,t,u,h⟩<;>rw[h]<;>simp
theorem TF0.tok (w:TF0 rs):TOk (bz rs):=by
 refine⟨by rw[dx];have:=w.Ez;omega,fun ts h=> ?_,fun ts h t ht=> ?_⟩
 .obtain⟨r,hr,rfl⟩:=j9.1 h;exact w.two r hr
 .obtain⟨r,hr,rfl⟩:=j9.1 h;have:=w.to r hr t ht;rw[dx];omega
theorem TF0.nat (w:TF0 rs): ∀ts∈bz rs,∀t∈ts,t.toNat<(bz rs).length:=fun ts h t ht=>by have:=w.tok.to ts h t ht;omega
theorem TF0.Ff (w:TF0 rs):RowsIn rs:=by intro k r pk hr zo q hq;rw[w.rows k r hr q hq,Edge.qe w.nat zo,dx]
theorem TF0.JC (w:TF0 rs): ∀ps∈Edge.bw (bz rs),ps.length<50:=by intro ps h;obtain⟨k,hk⟩:=rT h;have hl:=(bY.mp hk).1;rw[Edge.dz,dx] at hl;have:=w.short k hl;rw[Edge.qe w.nat hk,dx];exact this
theorem PZ {α:Type} {f:α->Nat} : ∀ {l:List α} {x:α},x∈l->f x<=(l.map f).sum
 |y::l,x,h=>by
  rw[Fw,Mu];rcases List.mem_cons.1 h with rfl|h
  .omega
  .have:=PZ (f:=f) h;omega
theorem TF0.size (w:TF0 rs): ∀r∈rs,r.ps.length<=100000/\r.ls.length<=100000:=fun r hr=>by have h1:=PZ (f:=oN) hr;have h2:=w.sum;have h3:oN r=r.ps.length+r.ls.length:=rfl;omega
theorem vn {α:Type} (f:α->Nat): ∀(l:List α) (i:Nat) (x y:α),l[i]? =some x->((l.set i y).map f).sum+f x=(l.map f).sum+f y
 |a::l,0,x,y,h=>by simp at h;subst h;simp only[List.set_cons_zero,Fw,Mu];omega
 |a::l,i+1,x,y,h=>by have:=vn f l i x y (by simpa using h);simp only[List.set_cons_succ,Fw,Mu];omega
theorem Mf {α:Type} (f:α->Nat) {l:List α} {i j:Nat} {x y x' y':α} (hi:l[i]? =some x) (hj:l[j]? =some y) (cJ:i≠j) (he:f x'+f y'=f x+f y):(((l.set i x').set j y').map f).sum=(l.map f).sum:=by have h1:=vn f l i x x' hi;have h2:=vn f (l.set i x') j y y' (by rw[eR,aT cJ];exact hj);omega
theorem Ad {bH rs:List XR} (S:mV bH rs) {β:Type} (f:XR->β) (hf: ∀(r:XR) (qs:List (Int×SV)),qs.length=r.ps.length->f { r with ps:=qs } =f r):bH.map f=rs.map f:=by
 refine zV fun i=> ?_;rw[tQ,tQ];rcases AV i rs.length with hi|hi
 .obtain⟨r,hr⟩: ∃r,rs[i]? =some r:=⟨_,aX hi⟩;obtain⟨r',wM⟩: ∃r,bH[i]? =some r:=⟨_,aX (by rw[S.1];exact hi)⟩;obtain⟨e,sl⟩:=S.2 i r' r wM hr;rw[hr,wM,e];simp only[CJ];rw[hf r r'.ps sl.1]
 .rw[uI hi,uI (by rw[S.1];exact hi)]
def eQ:XR:=⟨fI,fI,fI,1,(false,0),[],[],[]⟩
def lJ (rb rt:XR) (L:SV):XR:= { rb with L:=L,ls:=rb.ls++rt.ls,kind:=rt.kind,on:=rt.on,T:=rt.T,ts:=rt.ts }
structure zr (rs:List XR) (b to:Nat) (rb rt:XR):Prop where
 w:TF rs
 hb:rs[b]? =some rb
 ht:rs[to]? =some rt
 ne:to≠b
 h0:to≠0
 kind:rb.kind=2
 ts:rb.ts=[(to:Int)]
 Zz:rt.ps=[]
 one:(Edge.rowOf (bz rs) to rs.length).length<=1
def jumps (rs:List XR):Nat:=(rs.map fun r=>if r.kind=2 then 1 else 0).sum
section
variable {rs bH:List XR} {b to:Nat} {rb rt Bx:XR} {L:SV}
theorem OW (rs:List XR) (b to:Nat) (x:XR) (t:List Int) (hx:x.ts=t):bz ((rs.set b x).set to eQ)=Edge.qI (bz rs) b to t:=by unfold bz Edge.qI;rw[List.map_set,List.map_set,hx];rfl
theorem Uj (c:zr rs b to rb rt) (S:mV bH rs) (iy:bH[b]? =some Bx):TF ((bH.set b (lJ Bx rt L)).set to eQ):=by
 have w:=c.w;have pc:=(bY.mp c.hb).1;have pK:=(bY.mp c.ht).1;have jT:bz bH=bz rs:=Ad S (·.ts) (fun _ _ _=>rfl);obtain⟨eb,sb⟩:=S.2 b Bx rb iy c.hb;obtain⟨rt',zp⟩: ∃r,bH[to]? =some r:=⟨_,aX (by rw[S.1];exact pK)⟩;obtain⟨et,st⟩:=S.2 to rt' rt zp c.ht;have hT:bz ((bH.set b (lJ Bx rt L)).set to eQ)=Edge.qI (bz rs) b to rt.ts:=by rw[OW bH b to (lJ Bx rt L) rt.ts rfl,jT]
 have cn:((bH.set b (lJ Bx rt L)).set to eQ).length=rs.length:=by simp[S.1]
 have hbT:(bz rs)[b]? =some [(to:Int)]:=by rw[tj c.hb,c.ts]
 have htT:=tj c.ht;have acO:(Edge.rowOf (bz rs) to (bz rs).length).length<=1:=by rw[dx];exact c.one
 have ro: ∀k,k≠to->(Edge.rowOf (Edge.qI (bz rs) b to rt.ts) k rs.length).length=(Edge.rowOf (bz rs) k rs.length).length:=fun k hk=>by have:=Edge.Sq hbT htT c.ne hk;rw[dx] at this;exact this
 
 have at': ∀(k:Nat) (x:XR),((bH.set b (lJ Bx rt L)).set to eQ)[k]? =some x->(k=to/\x=eQ)\/(k≠to/\k=b/\x=lJ Bx rt L)\/(k≠to/\k≠b/\ ∃r,rs[k]? =some r/\x= { r with ps:=x.ps } /\mN x.ps r.ps):=by
  intro k x hx;rw[eR] at hx;by_cases e1:to=k
  .subst e1;rw[aU rfl,aU (by simp[S.1];exact pK)] at hx;exact .inl ⟨rfl,(Option.some.inj hx).symm⟩
  .rw[aT e1,eR] at hx;by_cases e2:b=k
   .subst e2;rw[aU rfl,aU (by rw[S.1];exact pc)] at hx;exact .inr (.inl ⟨Ne.symm e1,rfl,(Option.some.inj hx).symm⟩)
   .rw[aT e2] at hx;have hk:k<rs.length:=by rw[<-S.1];exact(bY.mp hx).1
    obtain⟨r,hr⟩: ∃r,rs[k]? =some r:=⟨_,aX hk⟩;obtain⟨e,s⟩:=S.2 k x r hx hr;exact .inr (.inr ⟨Ne.symm e1,Ne.symm e2,r,hr,e,s⟩)
 have adp: ∀x,x∈((bH.set b (lJ Bx rt L)).set to eQ)->x=eQ\/x=lJ Bx rt L\/ ∃r∈rs,x= { r with ps:=x.ps } /\mN x.ps r.ps:=by
  intro x hx;obtain⟨k,hk⟩:=rT hx;rcases at' k x hk with⟨_,e⟩|⟨_,_,e⟩|⟨_,_,r,hr,e,s⟩
  .exact .inl e
  .exact .inr (.inl e)
  .exact .inr (.inr ⟨r,dk hr,e,s⟩)
 have mt:=dk c.ht;have mb:=dk c.hb;refine⟨⟨by rw[cn];exact w.n1,by rw[cn];exact w.Ez,fun x hx=> ?_,fun x hx t ht=> ?_,fun k x hx q hq=> ?_,?_,fun x hx y hy=> ?_,fun k hk=> ?_⟩,fun k x hx=> ?_⟩
 .rcases adp x hx with rfl|rfl|⟨r,hr,e,_⟩
  .exact .inl ⟨rfl,rfl⟩
  .exact w.kind rt mt
  .rw[e];exact w.kind r hr
 .rw[cn];rcases adp x hx with rfl|rfl|⟨r,hr,e,_⟩
  .exact absurd ht (CH)
  .exact w.to rt mt t ht
  .rw[e] at ht;exact w.to r hr t ht
 .rw[hT,cn];rcases at' k x hx with⟨_,rfl⟩|⟨hk,rfl,rfl⟩|⟨hk,_,r,hr,_,s⟩
  .exact absurd hq (CH)
  .rw[ro _ hk];have hq':q∈Bx.ps:=hq;obtain⟨m,hm⟩:=rT hq';obtain⟨p,hp⟩: ∃p,rb.ps[m]? =some p:=⟨_,aX (by rw[<-sb.1];exact(bY.mp hm).1)⟩;rw[(sb.2 m q p hm hp).2];exact w.rows _ rb c.hb p (dk hp)
  .rw[ro _ hk];obtain⟨m,hm⟩:=rT hq;obtain⟨p,hp⟩: ∃p,r.ps[m]? =some p:=⟨_,aX (by rw[<-s.1];exact(bY.mp hm).1)⟩;rw[(s.2 m q p hm hp).2];exact w.rows _ r hr p (dk hp)
 .have e1:=Mf oN (x':=lJ Bx rt L) (y':=eQ) iy zp (Ne.symm c.ne) (by rw[et];simp only[oN,lJ,eQ,IG,List.length_nil];rw[st.1,c.Zz,eb];simp only[List.length_nil];omega)
  rw[e1,Ad S oN (fun r qs h=>by simp only[oN,h])];exact w.sum
 .rcases adp x hx with rfl|rfl|⟨r,hr,e,_⟩
  .exact absurd hy (CH)
  .simp only[lJ,tO] at hy;rcases hy with h|h
   .rw[eb] at h;exact w.al rb mb y h
   .exact w.al rt mt y h
  .rw[e] at hy;exact w.al r hr y hy
 .rw[cn] at hk;rw[hT,cn];have h1:=Edge.Jr hbT htT c.ne k;rw[dx] at h1;exact Nat.lt_of_le_of_lt h1 (w.short k hk)
 .rw[hT];rcases at' k x hx with⟨_,rfl⟩|⟨hk,rfl,rfl⟩|⟨hk,_,r,hr,e,s⟩
  .exact .inr ⟨rfl,rfl,rfl⟩
  .rcases w.seen _ rb c.hb with h|⟨h,_⟩
   .exact .inl (Edge.Cy.chain hbT htT c.ne c.h0 acO h hk)
   .rw[c.kind] at h;cases h
  .rcases w.seen k r hr with h|⟨h1,h2,h3⟩
   .exact .inl (Edge.Cy.chain hbT htT c.ne c.h0 acO h hk)
   .refine .inr ⟨by rw[e];exact h1,?_,by rw[e];exact h3⟩;refine KF ?_;rw[s.1,h2];rfl
theorem Nb (c:zr rs b to rb rt) (S:mV bH rs) (iy:bH[b]? =some Bx) (φ:Sh->Bool):fN φ ((bH.set b (lJ Bx rt L)).set to eQ)=fN φ rs:=by have pK:=(bY.mp c.ht).1;obtain⟨eb,sb⟩:=S.2 b Bx rb iy c.hb;obtain⟨rt',zp⟩: ∃r,bH[to]? =some r:=⟨_,aX (by rw[S.1];exact pK)⟩;obtain⟨et,st⟩:=S.2 to rt' rt zp c.ht;unfold fN;rw[Mf (fun r=>rR φ r.ls) (x':=lJ Bx rt L) (y':=eQ) iy zp (Ne.symm c.ne) ?_,Ad S (fun r=>rR φ r.ls) (fun _ _ _=>rfl)];rw[et];simp only[lJ,eQ,rR,List.filter_append,IG,List.filter_nil,List.length_nil];omega
theorem Ko (c:zr rs b to rb rt) (S:mV bH rs) (iy:bH[b]? =some Bx):jumps ((bH.set b (lJ Bx rt L)).set to eQ)<jumps rs:=by
 have pK:=(bY.mp c.ht).1;have pc:=(bY.mp c.hb).1;obtain⟨eb,sb⟩:=S.2 b Bx rb iy c.hb;obtain⟨rt',zp⟩: ∃r,bH[to]? =some r:=⟨_,aX (by rw[S.1];exact pK)⟩;obtain⟨et,st⟩:=S.2 to rt' rt zp c.ht;have e0:jumps bH=jumps rs:=by unfold jumps;rw[Ad S (fun r=>if r.kind=2 then 1 else 0) (fun _ _ _=>rfl)]
 have h1:=vn (fun r:XR=>if r.kind=2 then 1 else 0) bH b Bx (lJ Bx rt L) iy;have h2:=vn (fun r:XR=>if r.kind=2 then 1 else 0) (bH.set b (lJ Bx rt L)) to rt' eQ (by rw[eR,aT (Ne.symm c.ne)];exact zp);have k1:Bx.kind=2:=by rw[eb];exact c.kind
 have k2:(lJ Bx rt L).kind=rt'.kind:=by rw[et];rfl
 have k3:eQ.kind=1:=rfl;simp only[k1,k2,k3] at h1 h2;unfold jumps at e0 ⊢;simp only[if_true,show ¬((1:Int)=2) by decide,if_false] at h1 h2;omega
end
section
variable {h h':ae} {n0 ai:Nat} {κ κ' cap:Nat->Nat} {rs:List XR}
theorem Nl {f:XR->SV} {xs:List XR} (d: ∀(i j:Nat) (ri rj:XR) (b:Nat),rs[i]? =some ri->rs[j]? =some rj->i≠j->ax (f ri).v b-> ¬ax (f rj).v b) (g:Nat->Nat)
  (hg: ∀(i:Nat) (x:XR),xs[i]? =some x->(f x).a=none\/ ∃r,rs[g i]? =some r/\f r=f x) (inj: ∀(i j:Nat) (x y:XR),xs[i]? =some x->xs[j]? =some y->i≠j->g i=g j->(f x).a=none\/(f y).a=none):
  ∀(i j:Nat) (ri rj:XR) (b:Nat),xs[i]? =some ri->xs[j]? =some rj->i≠j->ax (f ri).v b-> ¬ax (f rj).v b:=by
 intro i j x y b hx hy hn PK CM;rcases hg i x hx with h1|⟨r1,h1,e1⟩
 .exact fW h1 PK
 rcases hg j y hy with h2|⟨r2,h2,e2⟩
 .exact fW h2 CM
 by_cases e:g i=g j
 .rcases inj i j x y hx hy hn e with h|h
  .exact fW h PK
  .exact fW h CM
 .exact d (g i) (g j) r1 r2 b h1 h2 e (by rw[e1];exact PK) (by rw[e2];exact CM)
theorem cq.ads (w:cq h n0 ai κ cap rs) (ok:bu h) (hr:rs[i]? =some r) (g:ab (ax r.L.v) h h') (hL:e_ mJ h' L' I9) (ext: ∀b,κ b≠0->κ' b=κ b) (e1: ∀b,κ' b=1->κ b=1) (hk: ∀b,ax L'.v b->κ' b=4)
  (hd: ∀(j:Nat) (x:XR),rs[j]? =some x->i≠j-> ∀b,ax L'.v b-> ¬ax x.L.v b) (new: ∀b,κ' b≠0->n0<=b/\b<h'.next) (JQ: ∀x∈I9,x.dst<ai/\gK ai x.a/\gK ai x.b/\VA κ cap x.args):
  cq h' n0 ai κ' cap (rs.set i { r with L:=L',ls:=I9 }):=by
 have hi:=(bY.mp hr).1;have R:=w.r i r hr;have UB: ∀b,κ b≠0->κ' b=κ b/\cap b=cap b:=fun b hb=>⟨ext b hb,rfl⟩;have alV: ∀b,κ b=1->κ' b=1/\cap b=cap b:=fun b hb=>⟨by rw[ext b (by omega),hb],rfl⟩;refine⟨fun j x hx=> ?_,eL (f:=(·.P)) hr w.dP rfl,?_,eL (f:=(·.T)) hr w.dT rfl,fun b hb=>(w.V.grow ok g (fun b hb=>by have:=R.kL b hb;omega)) b (e1 b hb),new⟩
 .rw[eR] at hx;by_cases e1:i=j
  .rw[aU e1,aU hi] at hx;cases hx;have R':=R.congr UB;exact⟨R.P.grow ok g (fun b hb hs=>by have:=R.kL b hs;have:=R.kP b hb;omega),hL,R.T.grow ok g (fun b hb hs=>by have:=R.kL b hs;have:=R.kT b hb;omega),R'.kP,hk,R'.kT,R'.ps,fun x hx=>⟨(JQ x hx).1,(JQ x hx).2.1,(JQ x hx).2.2.1,(JQ x hx).2.2.2.congr alV⟩,R.on⟩
  .rw[aT e1] at hx;have Rx:=w.r j x hx;exact(Rx.grow ok g (fun b hb=>⟨fun h=>by have:=R.kL b hb;have:=Rx.kP b h;omega,w.dL i j r x b hr hx e1 hb,fun h=>by have:=R.kL b hb;have:=Rx.kT b h;omega⟩)).congr UB
 .intro i' j ri rj b h1 h2 hn hb dq;rw[eR] at h1 h2;by_cases e1:i=i'
  .rw[aU e1,aU hi] at h1;cases h1;rw[aT (by omega)] at h2;exact hd j rj h2 (by omega) b hb dq
  .rw[aT e1] at h1;by_cases e2:i=j
   .rw[aU e2,aU hi] at h2;cases h2;exact hd i' ri h1 e1 b dq hb
   .rw[aT e2] at h2;exact w.dL i' j ri rj b h1 h2 hn hb dq
theorem cq.alr (w:cq h n0 ai κ cap rs) (ok:bu h) (um:n0<=h.next) (hr:rs[i]? =some r) (g:ab (ax r.L.v) h h') (hL:e_ mJ h' L' I9) (hb: ∀b,ax L'.v b->ax r.L.v b\/b=h.next) (JQ: ∀x∈I9,x.dst<ai/\gK ai x.a/\gK ai x.b/\VA κ cap x.args):
  ∃κ':Nat->Nat,cq h' n0 ai κ' cap (rs.set i { r with L:=L',ls:=I9 })/\(∀b,b<h.next->κ' b=κ b)/\(∀b,κ' b=2->κ b=2):=by
 have R:=w.r i r hr;have κn:κ h.next=0:=by
  have hw:=w.new h.next;rcases tP (κ h.next) with h1|h1
  .exact h1
  .have:=(hw (by omega)).2;omega
 by_cases e:ax L'.v h.next
 .obtain⟨κ',VG,VH⟩: ∃κ':Nat->Nat,κ' h.next=4/\ ∀b,b≠h.next->κ' b=κ b:=⟨fun b=>if b=h.next then 4 else κ b,aU rfl,fun b hb=>aT hb⟩;have only: ∀b,ax L'.v b->b=h.next:=by intro b hb;obtain⟨_,_,_,e1⟩:=hb;obtain⟨_,_,_,e2⟩:=e;rw[e1] at e2;simp at e2;exact e2.1.1
  have ef:=hL.bA g.ok e;refine⟨κ',w.ads ok hr g hL (fun b hb=>VH b (fun e=>hb (by rw[e];exact κn))) (fun b hb=> ?_) (fun b hb=>by rw[only b hb];exact VG) (fun j x hx _ b hb dq=>by
   have:=(w.r j x hx).kL b dq;rw[only b hb] at this;omega) (fun b hb=> ?_) JQ,fun b hb=>VH b (by omega),fun b hb=> ?_⟩
  .by_cases e1:b=h.next
   .rw[e1,VG] at hb;omega
   .rw[VH b e1] at hb;exact hb
  .by_cases e1:b=h.next
   .rw[e1];exact⟨um,ef⟩
   .rw[VH b e1] at hb;have:=w.new b hb;have:=g.next;omega
  .by_cases e1:b=h.next
   .rw[e1,VG] at hb;omega
   .rw[VH b e1] at hb;exact hb
 .have sub: ∀b,ax L'.v b->ax r.L.v b:=fun b h1=>(hb b h1).resolve_right (fun e1=>e (e1▸h1));exact⟨κ,w.ads ok hr g hL (fun _ _=>rfl) (fun _ h=>h) (fun b hb=>R.kL b (sub b hb)) (fun j x hx hn b hb=>w.dL i j r x b hr hx hn (sub b hb)) (fun b hb=>by have:=w.new b hb;have:=g.next;omega) JQ,fun _ _=>rfl,fun _ h=>h⟩
theorem cq.ah5 (w:cq h n0 ai κ cap rs) (hb:rs[b]? =some rb) (ht:rs[to]? =some rt) (cJ:b≠to) (k:Int):cq h n0 ai κ cap ((rs.set b { rb with kind:=k,on:=rt.on,T:=rt.T,ts:=rt.ts }).set to eQ):=by
 have pc:=(bY.mp hb).1;have pK:=(bY.mp ht).1;have Rb:=w.r b rb hb;have Rt:=w.r to rt ht;have at': ∀(i:Nat) (x:XR),((rs.set b { rb with kind:=k,on:=rt.on,T:=rt.T,ts:=rt.ts }).set to eQ)[i]? =some x->(i=to/\x=eQ)\/(i≠to/\i=b/\x= { rb with kind:=k,on:=rt.on,T:=rt.T,ts:=rt.ts })\/(i≠to/\i≠b/\rs[i]? =some x):=by
  intro i x hx;rw[eR] at hx;by_cases e1:to=i
  .subst e1;rw[aU rfl,aU (by simpa using pK)] at hx;exact .inl ⟨rfl,(Option.some.inj hx).symm⟩
  .rw[aT e1,eR] at hx;by_cases e2:b=i
   .subst e2;rw[aU rfl,aU pc] at hx;exact .inr (.inl ⟨Ne.symm e1,rfl,(Option.some.inj hx).symm⟩)
   .rw[aT e2] at hx;exact .inr (.inr ⟨Ne.symm e1,Ne.symm e2,hx⟩)
 have idg: ∀(f:XR->SV),f eQ=fI->f { rb with kind:=k,on:=rt.on,T:=rt.T,ts:=rt.ts } =f rb-> ∀(i:Nat) (x:XR),((rs.set b { rb with kind:=k,on:=rt.on,T:=rt.T,ts:=rt.ts }).set to eQ)[i]? =some x->(f x).a=none\/ ∃r,rs[id i]? =some r/\f r=f x:=by
  intro f e1 e2 i x hx;rcases at' i x hx with⟨_,rfl⟩|⟨_,rfl,rfl⟩|⟨_,_,h⟩
  .rw[e1];exact .inl rfl
  .exact .inr ⟨rb,hb,e2.symm⟩
  .exact .inr ⟨x,h,rfl⟩
 refine⟨fun i x hx=> ?_,Nl (f:=(·.P)) w.dP id (idg (·.P) rfl rfl) (fun i j x y _ _ h1 h2=>absurd h2 h1),Nl (f:=(·.L)) w.dL id (idg (·.L) rfl rfl) (fun i j x y _ _ h1 h2=>absurd h2 h1),
  Nl (f:=(·.T)) w.dT (fun i=>if i=b then to else i) (fun i x hx=> ?_) (fun i j x y hx hy hn he=> ?_),w.V,w.new⟩
 .rcases at' i x hx with⟨_,rfl⟩|⟨_,rfl,rfl⟩|⟨_,_,h⟩
  .exact⟨e_.nil _ _,e_.nil _ _,e_.nil _ _,fun b hb=>(fW rfl hb).elim,fun b hb=>(fW rfl hb).elim,fun b hb=>(fW rfl hb).elim,fun p hp=>(CH hp).elim,fun p hp=>(CH hp).elim,fun h=>by cases h⟩
  .exact⟨Rb.P,Rb.L,Rt.T,Rb.kP,Rb.kL,Rt.kT,Rb.ps,Rb.ls,Rt.on⟩
  .exact w.r i x h
 .rcases at' i x hx with⟨_,rfl⟩|⟨_,rfl,rfl⟩|⟨_,hn,h⟩
  .exact .inl rfl
  .exact .inr ⟨rt,by simp only[if_true];exact ht,rfl⟩
  .exact .inr ⟨x,by simp only[aT hn];exact h,rfl⟩
 .rcases at' i x hx with⟨_,rfl⟩|⟨h1,h2,h3⟩|⟨h1,h2,h3⟩
  .exact .inl rfl
  .rcases at' j y hy with⟨_,rfl⟩|⟨k1,k2,k3⟩|⟨k1,k2,k3⟩
   .exact .inr rfl
   .exact absurd (h2.trans k2.symm) hn
   .rw[aU h2,aT k2] at he;exact absurd he.symm k1
  .rcases at' j y hy with⟨_,rfl⟩|⟨k1,k2,k3⟩|⟨k1,k2,k3⟩
   .exact .inr rfl
   .rw[aT h2,aU k2] at he;exact absurd he h1
   .rw[aT h2,aT k2] at he;exact absurd he hn
end
def ChD:List Nat:=[54,55,56,57,58,59,60,61,62,63]
theorem M9 (ok:bu h) (O:mF h n0 ai κ cap B rs) (um:n0<=h.next) {X b bB sX:Nat} (hb:rs[b]? =some rb) (ht:rs[to]? =some rt) (cJ:b≠to) (ig:B.a=some ⟨bB,0,none⟩) (hX:h.tr.get X=some (.aA (fe.enc rt) false 0 sX)) (κX:κ X=0) (Ed:rb.ls.length+rt.ls.length<2000000)
  {e:Env} {Q:aP->Env->ae->Prop} (f4:Env.get e 4= .pointer (some ⟨bB,b*6,none⟩)) (f6:Env.get e 6= .pointer (some ⟨X,0,none⟩))
  (C: ∀e' h' κ' L',aw ChD e e'->ab (fun x=>κ x≠0) h h'->(∀x,x<h.next->κ' x=κ x)->mF h' n0 ai κ' cap B (rs.set b { rb with L:=L',ls:=rb.ls++rt.ls })->Q .normal e' h'):aB FF M8 e h Q:=by
 have Rb:=O.os.r b rb hb;have Rt:=O.os.r to rt ht;obtain⟨bB',cs,oB,sB,ov,FZ,YZ,eH,dy,fH⟩:=O.A.el hb;rw[ig] at ov;cases ov;have κB:κ bB=2:=O.kB bB (bU ig);have HC:=dy 1 1 (by decide);simp[-ag] at HC;have dS:=hX;simp only[qJ] at dS;simp at dS;have oX:=ok.bA hX;unfold M8;simp[f4,f6,dS,HC,-ag,ay,aq dS,oX];have xz:=(aW ok).ok;have O1:=O.bt ok (aW ok);have gt:ab aG h (tick h):=aW ok;generalize tick h=h1 at xz O1 gt;have Rb1:=O1.os.r b rb hb;have Rt1:=O1.os.r to rt ht;obtain⟨L',h3,ea,hL3,g3,Bk,_⟩:=Dy (E:=mJ) (bytes:=80) (z:=[.int .i64 0,.int .i64 0,.bool false,.int .i64 0,.bool false,.int .i64 0,.int .i64 0,.slice none 0 0]) xz rfl Rb1.L Rt1.L.sl Ed (by decide);obtain⟨κ',O3,iM,h2⟩:=O1.os.alr xz (by have:=gt.next;omega) hb g3 hL3 Bk (fun x hx=>by
  rcases tO.1 hx with h|h
  .exact Rb1.ls x h
  .exact Rt1.ls x h)
 have A3:=O1.A.grow xz g3 (fun x hx hs=>by have:=O1.kB x hx;have:=Rb1.kL x hs;omega);obtain⟨bB',cs3,oB3,sB3,ov,IL,anj,KV,acY,Lb⟩:=A3.el hb;rw[ig] at ov;cases ov;have NO:=KV 1 1 (by decide);simp at NO;refine ED ea ?_;simp[f4,IL,NO];have gw:ab (· =bB) h3 (put h3 bB (b*6+1) cs3 [.slice L'.a L'.l L'.c] oB3):=aM g3.ok IL;have A4:=Lb { rb with L:=L',ls:=rb.ls++rt.ls } 1 [.slice L'.a L'.l L'.c] (by simp) rfl (put h3 bB (b*6+1) cs3 [.slice L'.a L'.l L'.c] oB3) ⟨_,aD _ _ _ _ _ _⟩;have hlB:bB<h1.next:=xz.wf _ _ (gt.get ok FZ (fun h=>h));have κB':κ' bB=2:=by rw[iM bB hlB];exact κB
 refine C _ _ κ' L' ?_ ?_ (fun x hx=>iM x (by have:=gt.next;omega)) ⟨O3.grow g3.ok gw (fun x e=> .inr (by rw[e];exact κB')),A4,fun x hx=>by rw[pa ig hx];exact κB'⟩
 .repeat (refine aw.set ?_)
  exact aw.refl _ _
 .exact(gt.bt.trans (g3.bJ (fun x _ hs=>by have:=Rb1.kL x hs;omega))).trans (gw.bJ (fun x _ e=>by rw[e];omega))
def ChA:List Nat:=[64,65,66,67,68,69,70,71,72,73,74,75,76,77]
structure ChP (n0 ai:Nat) (cap:Nat->Nat) (B:SV) (rs:List XR) (κ':Nat->Nat) (bH:List XR) (h':ae):Prop where
 O:mF h' n0 ai κ' cap B bH
 tf:TF bH
 len:bH.length=rs.length
 CS: ∀φ,fN φ bH=fN φ rs
theorem Kn (ok:bu h) {B L:SV} (um:n0<=h.next) {X b bB sX F sF:Nat} (c:zr rs b to rb rt) (O:mF h n0 ai κ cap B (rs.set b { rb with L:=L,ls:=rb.ls++rt.ls })) (ig:B.a=some ⟨bB,0,none⟩) (hX:h.tr.get X=some (.aA (fe.enc rt) false 0 sX)) (κX:κ X=0)
  {name:ByteArray} {p rg:Int} (hF:h.tr.get F=some (.aA (au name p rg B) false 0 sF)) (κF:κ F=0)
  {e:Env} {Q:aP->Env->ae->Prop} (f1:Env.get e 1= .pointer (some ⟨F,0,none⟩)) (f3:Env.get e 3= .int .i64 b) (f4:Env.get e 4= .pointer (some ⟨bB,b*6,none⟩)) (f5:Env.get e 5= .int .i64 to) (f6:Env.get e 6= .pointer (some ⟨X,0,none⟩))
  (C: ∀e' h' bH,aw ChA e e'->ab (fun x=>κ x≠0) h h'->ChP n0 ai cap B rs κ bH h'->jumps bH<jumps rs->Q .normal e' h'):aB FF H9 e h Q:=by
 have pc:=(bY.mp c.hb).1;have pK:=(bY.mp c.ht).1;obtain⟨ZY,Yz⟩: ∃ZY,ZY=rs.set b { rb with L:=L,ls:=rb.ls++rt.ls } :=⟨_,rfl⟩;rw[<-Yz] at O;have ht1:ZY[to]? =some rt:=by rw[Yz,eR,aT (Ne.symm c.ne)];exact c.ht
 have KO:ZY[b]? =some { rb with L:=L,ls:=rb.ls++rt.ls } :=by rw[Yz,eR,aU rfl,aU pc]
 have hT1:bz ZY=bz rs:=by
  rw[Yz];unfold bz;rw[List.map_set];refine zV fun m=> ?_;rw[eR];by_cases e:b=m
  .subst e;rw[aU rfl,aU (by simpa using pc),tQ,c.hb];rfl
  .rw[aT e]
 have Ui: ∀(k:Nat) (x:XR),ZY[k]? =some x-> ∃y,rs[k]? =some y/\x.ps=y.ps:=by
  intro k x hx;rw[Yz,eR] at hx;by_cases e:b=k
  .subst e;rw[aU rfl,aU pc] at hx;cases hx;exact⟨rb,c.hb,rfl⟩
  .rw[aT e] at hx;exact⟨x,hx,rfl⟩
 unfold H9;simp[f1,f3,f5];have aiA:RowsIn ZY:=by intro k r pk hr zo q hq;obtain⟨y,hy,e⟩:=Ui k r hr;rw[hT1] at zo;rw[e] at hq;exact c.w.Ff k y pk hy zo q hq
 have pl1: ∀r∈ZY,r.ps.length<1000000:=by intro r hr;obtain⟨k,hk⟩:=rT hr;obtain⟨y,hy,e⟩:=Ui k r hk;rw[e];have:=(c.w.size y (dk hy)).1;omega
 have Rn:=LK ok O um hF κF (bA:=to) (now:=b) ht1 (by rw[hT1];exact c.w.tok) aiA pl1;refine aE.call (V:=afm n0 ai κ cap B ZY h) (by simpa [f1] using Rn) ?_;rintro _ h2 ⟨g2,TG,O2,S2⟩;have k1: ∀x,(κ x=1\/κ x=3)->κ x≠0:=fun x h=>by omega
 have dS:=g2.get ok hX (by omega);have kx:=g2.get ok hF (by omega);obtain⟨rb2,acX⟩: ∃r,TG[b]? =some r:=⟨_,aX (by rw[S2.1,Yz];simpa using pc)⟩;obtain⟨rt2,ac2⟩: ∃r,TG[to]? =some r:=⟨_,aX (by rw[S2.1,Yz];simpa using pK)⟩;obtain⟨eb2,sb2⟩:=S2.2 b rb2 _ acX KO;obtain⟨et2,st2⟩:=S2.2 to rt2 _ ac2 ht1;obtain⟨bB',cs,oB,sB,ov,FZ,YZ,eH,dy,fH⟩:=O2.A.el acX;rw[ig] at ov;cases ov;have κB:κ bB=2:=O2.kB bB (bU ig);have Bm:=eH 2 4 (by decide);simp at Bm;have fK:=dS;simp only[qJ] at fK;simp at fK;have vH:=kx;have ew:=O2.A.len;have tT:TG.length=rs.length:=by rw[S2.1,Yz];simp
 simp[au] at vH;rw[ig,ew,tT] at vH;have nFB: ¬F=bB:=fun e=>by rw[e] at κF;omega
 obtain⟨rb3,abP⟩: ∃r:XR,r= { rb2 with kind:=rt.kind,on:=rt.on,T:=rt.T,ts:=rt.ts } :=⟨_,rfl⟩;have A3:=fH rb3 2 [.int .i64 rt.kind,.bool rt.on.1,.int .i64 rt.on.2,.slice rt.T.a rt.T.l rt.T.c] (by simp) (by rw[abP];rfl) (put h2 bB (b*6+2) cs [.int .i64 rt.kind,.bool rt.on.1,.int .i64 rt.on.2,.slice rt.T.a rt.T.l rt.T.c] oB) ⟨_,aD _ _ _ _ _ _⟩;have ht3:(TG.set b rb3)[to]? =some rt2:=by rw[eR,aT (Ne.symm c.ne)];exact ac2
 obtain⟨bB',cs3,oB3,sB3,ov,IL,anj,KV,acY,Lb⟩:=A3.el ht3;rw[ig] at ov;cases ov;have hf3:=KV 0 6 (by decide);simp at hf3;have gw:ab (· =bB) h2 (put h2 bB (b*6+2) cs [.int .i64 rt.kind,.bool rt.on.1,.int .i64 rt.on.2,.slice rt.T.a rt.T.l rt.T.c] oB):=aM g2.ok FZ;have F9:=gw.get g2.ok vH nFB;simp[f4,f6,fK,FZ,Bm];generalize put h2 bB (b*6+2) cs _ oB=h3 at*;simp[f1,f5,F9,IL,hf3,pK];have gw2:ab (· =bB) h3 (put h3 bB (to*6) cs3 [.slice none 0 0,.slice none 0 0,.int .i64 1,.bool false,.int .i64 0,.slice none 0 0] oB3):=aM gw.ok IL;have A5:=Lb eQ 0 [.slice none 0 0,.slice none 0 0,.int .i64 1,.bool false,.int .i64 0,.slice none 0 0] (by simp) rfl (put h3 bB (to*6) cs3 [.slice none 0 0,.slice none 0 0,.int .i64 1,.bool false,.int .i64 0,.slice none 0 0] oB3) ⟨h3.clock,by simp⟩;have O5:=((O2.os.ah5 acX ac2 (Ne.symm c.ne) rt.kind).grow g2.ok gw (fun x e=> .inr (by rw[e];exact κB))).grow gw.ok gw2 (fun x e=> .inr (by rw[e];exact κB));have e3:({ rb2 with kind:=rt.kind,on:=rt2.on,T:=rt2.T,ts:=rt2.ts } :XR)=rb3:=by rw[abP,et2]
 rw[e3] at O5;obtain⟨rb4,abQ⟩: ∃r:XR,r= { rb2 with L:=rb.L,ls:=rb.ls } :=⟨_,rfl⟩;have agK:b<TG.length:=by omega
 have S4:mV (TG.set b rb4) rs:=by
  refine⟨by simp[tT],fun i x y hx hy=> ?_⟩;rw[eR] at hx;by_cases e1:b=i
  .subst e1;rw[aU rfl,aU agK] at hx;cases hx;rw[c.hb] at hy;cases hy;refine⟨by rw[abQ,eb2],?_⟩;have:rb4.ps=rb2.ps:=by rw[abQ]
   rw[this];exact sb2
  .rw[aT e1] at hx;exact S2.2 i x y hx (by rw[Yz,eR,aT e1];exact hy)
 have Gc:(TG.set b rb4)[b]? =some rb4:=by rw[eR,aU rfl,aU agK]
 have e4:lJ rb4 rt L=rb3:=by rw[abP,abQ,eb2];rfl
 have e5:((TG.set b rb4).set b (lJ rb4 rt L)).set to eQ=(TG.set b rb3).set to eQ:=by rw[List.set_set,e4]
 have T5:=Uj (L:=L) c S4 Gc;have L5:=Nb (L:=L) c S4 Gc;have J5:=Ko (L:=L) c S4 Gc;rw[e5] at T5 J5;refine C _ _ ((TG.set b rb3).set to eQ) ?_ ?_ ⟨⟨O5,A5,O2.kB⟩,T5,by simp[tT],fun φ=>by rw[<-e5];exact L5 φ⟩ J5
 .repeat (refine aw.set ?_)
  exact aw.refl _ _
 .exact((g2.bJ (fun x _ e=>k1 x e)).trans (gw.bJ (fun x _ e=>by rw[e];omega))).trans (gw2.bJ (fun x _ e=>by rw[e];omega))
def ake (h0:ae) (κ0:Nat->Nat) (n0 ai:Nat) (cap:Nat->Nat) (B:SV) (zq:List XR) (b F R bB:Nat) (m:Nat) (e:Env) (h':ae):Prop:=
 ∃(rs:List XR) (κ:Nat->Nat),m=jumps rs/\Env.get e 1= .pointer (some ⟨F,0,none⟩)/\Env.get e 2= .pointer (some ⟨R,0,none⟩)/\Env.get e 3= .int .i64 b/\Env.get e 4= .pointer (some ⟨bB,b*6,none⟩)/\ab (fun x=>κ0 x≠0) h0 h'/\(∀x,x<h0.next->κ x=κ0 x)/\ChP n0 ai cap B zq κ rs h'
theorem Na {h0:ae} (jG:bu h0) (um:n0<=h0.next) (O0:mF h0 n0 ai κ0 cap B zq) (T0:TF zq) {F R b bB sF:Nat} (ig:B.a=some ⟨bB,0,none⟩) (hF:h0.tr.get F=some (.aA (au name p rg B) false 0 sF)) (κF:κ0 F=0) (hb:b<zq.length)
  {e:Env} {Q:aP->Env->ae->Prop} (f1:Env.get e 1= .pointer (some ⟨F,0,none⟩)) (f2:Env.get e 2= .pointer (some ⟨R,0,none⟩)) (f3:Env.get e 3= .int .i64 b) (f4:Env.get e 4= .pointer (some ⟨bB,b*6,none⟩))
  (C: ∀e' h' rs κ,Env.get e' 1= .pointer (some ⟨F,0,none⟩)->Env.get e' 2= .pointer (some ⟨R,0,none⟩)->Env.get e' 3= .int .i64 b->ab (fun x=>κ0 x≠0) h0 h'->(∀x,x<h0.next->κ x=κ0 x)->ChP n0 ai cap B zq κ rs h'->Q (.exit 2) e' h'):aB FF (.loop mB) e h0 Q:=by
 refine aB.loop (ake h0 κ0 n0 ai cap B zq b F R bB) ?_ (n:=jumps zq) ⟨zq,κ0,rfl,f1,f2,f3,f4,.refl jG,fun _ _=>rfl,⟨O0,T0,rfl,fun _=>rfl⟩⟩;rintro m e' h' ⟨rs,κ,rfl,q1,q2,q3,q4,g,iM,P⟩;have bX:=g.ok;have O:=P.O;have w:=P.tf;have hn:rs.length=zq.length:=P.len;obtain⟨rb,X0⟩: ∃r,rs[b]? =some r:=⟨_,aX (by omega)⟩;have hmb:=dk X0;have Rb:=O.os.r b rb X0;obtain⟨bB',cs,oB,sB,ov,FZ,YZ,eH,dy,fH⟩:=O.A.el X0;rw[ig] at ov;cases ov;have rdk:=dy 2 1 (by decide);have rdT:=dy 5 1 (by decide);simp[-ag] at rdk rdT;have sD:=g.get jG hF (by omega);have kx:=sD;have ew:=O.A.len;simp[au] at kx;rw[ig,ew] at kx;have κF':κ F=0:=by rw[iM F (jG.wf _ _ hF)];exact κF
 have oF:=bX.bA sD;unfold mB;by_cases hk:rb.kind=2
 .obtain⟨t,jT⟩: ∃t,rb.ts=[t]:=by
   rcases w.kind rb hmb with⟨h,_⟩|⟨_,h⟩|⟨h,_⟩
   .omega
   .exact h
   .omega
  obtain⟨ht1,ht2⟩:=w.to rb hmb t (by rw[jT];simp);obtain⟨to,rfl⟩: ∃u:Nat,t=u:=⟨t.toNat,by omega⟩;have Zg:to<rs.length:=by omega
  obtain⟨rt,hrt⟩: ∃r,rs[to]? =some r:=⟨_,aX Zg⟩;have Rt:=O.os.r to rt hrt;have hTb:=Rb.T;rw[jT] at hTb;obtain⟨bT,csT,oT,sT,Bi,amx,hjT,_,N0,_⟩:=hTb.el (i:=0) (x:=(to:Int)) rfl;have rt0:=N0 0 1 (by decide);simp[-ag] at rt0;have tC:=hTb.len;simp at tC;obtain⟨_,_,_,_,af_,IK,_,_,xZ,_⟩:=O.A.el hrt;rw[ig] at af_;cases af_;have rd6:=xZ 0 6 (by decide);simp[-ag] at rd6;have MC:(rb.kind==2)=true:=by simp[hk]
  rw[Bi,tC] at rdT;simp[q1,q3,q4,rdk,MC,rdT,rt0,kx,aq kx,Zg,rd6,-ag];refine aE.cut (fun h2=>ab aG h' h2/\ ∃s,h2.tr.get h'.next=some (.aA (fe.enc rt) false 0 s)) ?_ ?_
  .exact⟨(ab.refl bX).var _ _,h'.clock,by simp[aJ]⟩
  rintro h2 ⟨g2,sX,hX⟩;have O2:=O.bt bX g2;have vH:=g2.get bX kx (fun h=>h);have KI:=g2.get bX sD (fun h=>h);have κX:κ h'.next=0:=by
   have hw:=O.os.new h'.next;rcases tP (κ h'.next) with h1|h1
   .exact h1
   .have:=(hw (by omega)).2;omega
  have dS:=hX;simp only[qJ] at dS;simp at dS;have jl:=Rt.P.len;have G2:ab (fun x=>κ0 x≠0) h0 h2:=g.trans g2.bt;have P2:ChP n0 ai cap B zq κ rs h2:=⟨O2,w,hn,P.CS⟩;by_cases e1:to=b
  .have e2:((to:Int)==(b:Int))=true:=by simp[e1]
   simp[e2];exact C _ _ rs κ (by simp[q1]) (by simp[q2]) (by simp[q3]) G2 iM P2
  have e2:((to:Int)==(b:Int))=false:=by simp;omega
  by_cases e3:0<rt.ps.length
  .simp[e2,dS,jl,e3];exact C _ _ rs κ (by simp[q1]) (by simp[q2]) (by simp[q3]) G2 iM P2
  have gM:rt.ps=[]:=KF (by omega);obtain⟨bs,IP,hV⟩:=O2.view;have E:=hV.ends w.tok;have Br:=hV.dw;have pc:bs.length=rs.length:=hV.1;simp[e2,dS,jl,gM,q1,vH];have Ah:=jA g2.ok (name:=name) (p:=p) (r:=rg) IP E;refine aE.call (V:=fun v h'=>ab aG h2 h'/\ ∃d ws,v= .slice (some ⟨d,0,none⟩) bs.length bs.length/\jm bp h2.next h' d ws (Edge.bw (bj bs))) (by simpa [au,ig,ew] using Ah) ?_;rintro _ h3 ⟨g3,d,ws,rfl,w3⟩;rw[Br] at w3;have pK:(bz rs).length=rs.length:=dx rs;obtain⟨pk,zo⟩: ∃pk,(Edge.bw (bz rs))[to]? =some pk:=⟨_,aX (by rw[Edge.dz,pK];exact Zg)⟩;obtain⟨wk,MF⟩: ∃wk,ws[to]? =some wk:=⟨_,aX (by rw[w3.len,Edge.dz,pK];exact Zg)⟩;obtain⟨sd,hd⟩:=w3.aA;have Yd:=ze hd MF;simp[-ag] at Yd;have XN:bk bp h3 wk.v pk:=(w3.acc to wk pk MF zo).sl;have JT:wk.l=pk.length:=by obtain⟨a,cap,e,_⟩:=XN;simp at e;exact e.2.1
  have Ha:=Edge.qe w.nat zo;rw[pK] at Ha;have hub:to<bs.length:=by omega
  have P3:ChP n0 ai cap B zq κ rs h3:=⟨O2.bt g2.ok g3,w,hn,P.CS⟩;have fK:=g3.get g2.ok hX (fun h=>h);have F9:=g3.get g2.ok KI (fun h=>h);have G3:=G2.trans g3.bt;by_cases e4:1<pk.length
  .have e5:(1:Int)<(pk.length:Int):=by omega
   simp[Yd,hub,JT,e5,-ag];exact C _ _ rs κ (by simp[q1]) (by simp[q2]) (by simp[q3]) G3 iM P3
  have c:zr rs b to rb rt:=⟨w,X0,hrt,e1,by omega,hk,jT,gM,by rw[<-Ha];omega⟩;have e5: ¬(1:Int)<(pk.length:Int):=by omega
  simp[Yd,hub,JT,e5,-ag];have s1:=(w.size rb hmb).2;have s2:=(w.size rt (dk hrt)).2;refine M9 g3.ok P3.O (by have:=G3.next;omega) X0 hrt (Ne.symm e1) ig fK κX (by omega) (by simp[q4]) (by simp) ?_;intro e5 h5 κ5 L5 K5 g5 Ee O5;have lX:h'.next<h3.next:=g3.ok.wf _ _ fK;have lF:F<h3.next:=g3.ok.wf _ _ F9;have rV:=g5.get g3.ok fK (by omega);have NG:=g5.get g3.ok F9 (by omega);have m1:=K5.at (t:=1) (by simp;exact q1);have m2:=K5.at (t:=2) (by simp;exact q2);have m3:=K5.at (t:=3) (by simp;exact q3);have m4:=K5.at (t:=4) (by simp;exact q4);have m5:Env.get e5 5= .int .i64 to:=K5.at (t:=5) (by simp);have m6:Env.get e5 6= .pointer (some ⟨h'.next,0,none⟩):=K5.at (t:=6) (by simp);simp;refine Kn g5.ok (by have:=G3.next;have:=g5.next;omega) c O5 ig rV (by rw[Ee _ lX];exact κX) NG (by rw[Ee _ lF];exact κF') m1 m3 m4 m5 m6 ?_;intro e6 h6 rs6 K6 g6 P6 hj;have G5:ab (fun x=>κ0 x≠0) h0 h5:=G3.trans' g5 (fun _ _ h=>h) (fun x hx h=>by rw[iM x hx] at h;exact h);have G6:ab (fun x=>κ0 x≠0) h0 h6:=G5.trans' g6 (fun _ _ h=>h) (fun x hx h=>by have:=G3.next;rw[Ee x (by omega),iM x hx] at h;exact h)
  simp;exact⟨jumps rs6,hj,rs6,κ5,rfl,K6.at m1,K6.at m2,K6.at m3,K6.at m4,G6,fun x hx=>by have:=G3.next;rw[Ee x (by omega),iM x hx],⟨P6.O,P6.tf,P6.len.trans hn,fun φ=>(P6.CS φ).trans (P.CS φ)⟩⟩
 .have MC:(rb.kind==2)=false:=by simp[hk]
  simp[q4,rdk,MC,-ag];exact C _ _ rs κ (by simp[q1]) (by simp[q2]) (by simp[q3]) g iM P
def TL (name:ByteArray) (p rg:Int) (n0 ai:Nat) (κ0 cap:Nat->Nat) (B:SV) (zq:List XR) (h:ae) (v:Value) (h':ae):Prop:=
 ab (fun x=>κ0 x≠0) h h'/\v= .agg ⟨au name p rg B⟩/\ ∃rs κ,(∀x,x<h.next->κ x=κ0 x)/\ChP n0 ai cap B zq κ rs h'
def akf (h0:ae) (κ0:Nat->Nat) (n0 ai:Nat) (cap:Nat->Nat) (B:SV) (zq:List XR) (F R:Nat) (m:Nat) (e:Env) (h':ae):Prop:=
 ∃(b:Nat) (rs:List XR) (κ:Nat->Nat),m=zq.length-b/\b<=zq.length/\Env.get e 1= .pointer (some ⟨F,0,none⟩)/\Env.get e 2= .pointer (some ⟨R,0,none⟩)/\Env.get e 3= .int .i64 b/\ab (fun x=>κ0 x≠0) h0 h'/\(∀x,x<h0.next->κ x=κ0 x)/\ChP n0 ai cap B zq κ rs h'
theorem Kq (ok:bu h) {name:ByteArray} {p rg:Int} (um:n0<=h.next) (O0:mF h n0 ai κ0 cap B zq) (T0:TF zq):
  aF FF vw [.agg ⟨au name p rg B⟩] h (TL name p rg n0 ai κ0 cap B zq h):=by
 have Ez:=T0.Ez;have ew:=O0.A.len;obtain⟨r0,AY⟩: ∃r,zq[0]? =some r:=⟨_,aX T0.n1⟩;obtain⟨bB,_,_,_,ig,hBb0,_⟩:=O0.A.el AY;have κnew: ∀x,h.next<=x->κ0 x=0:=fun x hx=>by
  have hw:=O0.os.new x;rcases tP (κ0 x) with h1|h1
  .exact h1
  .have:=(hw (by omega)).2;omega
 refine aF.of CG ?_;unfold vt;have n2: ¬h.next=h.next+1:=by omega
 simp[au];refine aB.cut (fun h1=>ab aG h h1/\(∃s,h1.tr.get h.next=some (.aA (au name p rg B) false 0 s))/\(∃s,h1.tr.get (h.next+1)=some (.aA [.string ⟨⟨[]⟩⟩,.int .i64 0,.int .i64 0,.slice none 0 0] false 0 s))) ?_ ?_
 .exact⟨((ab.refl ok).new _ _).new _ _,⟨0,by simp[au,n2]⟩,⟨0,by simp⟩⟩
 rintro h1 ⟨g1,⟨sF,wK⟩,⟨sR,sG⟩⟩;have ln1:=g1.next;have lF:=g1.ok.wf _ _ wK;have lR:=g1.ok.wf _ _ sG;refine aB.loop (akf h1 κ0 n0 ai cap B zq h.next (h.next+1)) ?_ (n:=zq.length) ⟨0,zq,κ0,rfl,by omega,by simp,by simp,by simp,.refl g1.ok,fun _ _=>rfl,⟨O0.bt ok g1,T0,rfl,fun _=>rfl⟩⟩;rintro m e' h' ⟨b,rs,κ,rfl,hb,q1,q2,q3,g,iM,P⟩;have bX:=g.ok;have sD:=g.get g1.ok wK (fun h1=>h1 (κnew _ (by omega)));have hR':=g.get g1.ok sG (fun h1=>h1 (κnew _ (by omega)));have kx:=sD;have D3:=P.O.A.len;have hn:=P.len;simp[au] at kx;rw[ig,D3,hn] at kx;unfold th;by_cases pc:b<zq.length
 .have wb:=wrap_i64 ((b:Int)+1) (by omega) (by omega);simp[q1,q3,kx,pc];refine Na bX (κ0:=κ) (by have:=g.next;omega) P.O P.tf (F:=h.next) (R:=h.next+1) (b:=b) ig sD (by rw[iM _ lF];exact κnew _ (by omega)) (by omega) (by simp[q1]) (by simp[q2]) (by simp[q3]) (by simp) ?_;intro e3 h3 rs3 κ3 k1 k2 k3 g3 z9 P3;simp[k3,wb];exact⟨zq.length-(b+1),by omega,b+1,rs3,κ3,rfl,pc,by simp[k1],by simp[k2],by simp,g.trans' g3 (fun _ _ h=>h) (fun x hx h=>by rw[iM x hx] at h;exact h),fun x hx=>by have:=g.next;rw[z9 x (by omega),iM x hx],⟨P3.O,P3.tf,P3.len.trans hn,fun φ=>(P3.CS φ).trans (P.CS φ)⟩⟩
 .have:b=zq.length:=by omega
  subst this;have nR: ¬h.next+1=h.next:=by omega
  simp[q1,q2,q3,kx,hR',nR];have gw:=(ab.refl bX).put (S:=fun x=>x=h.next+1) (off:=0) (vs:=[Value.string name,Value.int IntKind.i64 p,Value.int IntKind.i64 rg,Value.slice (some ⟨bB,0,none⟩) zq.length B.c]) ⟨_,hR'⟩ (.inr rfl);generalize put h' _ _ _ _ _=h6 at gw ⊢;refine⟨(g1.bt.trans g).trans' gw (fun _ _ h=>h) (fun x hx e=>by omega),?_,rs,κ,fun x hx=>iM x (by omega),⟨P.O.grow bX gw (fun x e=>by rw[e,iM _ lR];exact κnew _ (by omega)),P.tf,P.len,P.CS⟩⟩;simp[au,ig,ew]
structure Qz (rs:List XR) (aK:List Nat):Prop where
 nd:aK.Nodup
 lt: ∀x∈aK,x<rs.length
 h00:aK[0]? =some 0
 mem: ∀k,k∈aK↔Edge.Cy (bz rs) k
theorem aoY (w:TF0 rs):Qz rs (Dfs.lH (Edge.vf (bz rs)) rs.length).reverse:=by
 have h0:0<(bz rs).length:=by rw[dx];exact w.n1
 obtain⟨nd,lt,⟨new,e0⟩,_,_⟩:=Dfs.xC (dw:=Edge.vf (bz rs)) h0 (fun b t ht=>by obtain⟨ts,u,h1,h2,rfl⟩:=Edge.AE ht;exact w.nat ts (dk h1) u h2)
 have pr:=Edge.LJ h0 w.nat;rw[dx] at nd lt e0 pr;refine⟨?_,fun x hx=>lt x (List.mem_reverse.1 hx),by rw[e0];simp,fun k=>by rw[List.mem_reverse];exact pr k⟩;show List.Pairwise (· ≠ ·) _;rw[List.pairwise_reverse];exact List.Pairwise.imp (fun h=>Ne.symm h) nd
theorem Z5 {n:Nat} {aK:List Nat} (nd:aK.Nodup) (lt: ∀x∈aK,x<n) (f:Nat->Nat):(aK.map f).sum=((List.range n).map fun i=>if decide (i∈aK) then f i else 0).sum:=by rw[Edge.zi (fun i=>decide (i∈aK))];refine Edge.Me ((List.perm_ext_iff_of_nodup nd (List.Pairwise.filter _ List.nodup_range)).2 fun x=> ?_) f;rw[NA,NB];simp only[decide_eq_true_eq];exact⟨fun h=>⟨lt x h,h⟩,fun h=>h.2⟩
theorem Bw {α:Type} (f:α->Nat) (d:Nat) (l:List α):(List.range l.length).map (fun i=>((l[i]?).map f).getD d)=l.map f:=by
 refine zV fun i=> ?_;rw[tQ,tQ];rcases AV i l.length with h|h
 .rw[List.getElem?_range h,aX h];simp[aX h]
 .rw[uI (by simpa using h),uI h];rfl
theorem Md {l:List Nat} {f g:Nat->Nat} (h: ∀x∈l,f x<=g x):(l.map f).sum<=(l.map g).sum:=by
 induction l with
 |nil=>exact dK _
 |cons x l ih=>
  rw[Fw,Fw,Mu,Mu];exact Nat.add_le_add (h x (by simp)) (ih fun y hy=>h y (by simp[hy]))
section
variable {rs bH:List XR} {aK:List Nat} {ats:List Int}
structure vS (rs:List XR) (aK:List Nat) (ats:List Int) (bH:List XR):Prop where
 len:bH.length=aK.length
 al:ats.length=rs.length
 at_: ∀i x:Nat,aK[i]? =some x->ats[x]? =some (i:Int)
 no: ∀x,x<rs.length->x∉aK->ats[x]? =some (-1)
 r: ∀(i k:Nat) (a b:XR),aK[i]? =some k->rs[k]? =some a->bH[i]? =some b-> ∃pk,(Edge.bw (bz rs))[k]? =some pk/\KR ats pk a b
theorem vS.ts (K:vS rs aK ats bH) (w:TF0 rs) (o:Qz rs aK) (i k:Nat) (hk:aK[i]? =some k): ∃ts BC,(bz rs)[k]? =some ts/\(bz bH)[i]? =some BC/\BC.length=ts.length/\ ∀(j:Nat) (t t':Int),ts[j]? =some t->BC[j]? =some t'->0<=t'/\aK[t'.toNat]? =some t.toNat:=by have qK:=o.lt k (dk hk);have ff:=(bY.mp hk).1;obtain⟨a,ha⟩: ∃a,rs[k]? =some a:=⟨_,aX qK⟩;obtain⟨b,hb⟩: ∃b,bH[i]? =some b:=⟨_,aX (by rw[K.len];exact ff)⟩;obtain⟨pk,_,kr⟩:=K.r i k a b hk ha hb;refine⟨a.ts,b.ts,tj ha,tj hb,by rw[kr.ts];simp,fun j t t' h1 h2=> ?_⟩;rw[kr.ts,tQ,h1] at h2;simp only[CJ,kl] at h2;have hR:Edge.Cy (bz rs) k:=(o.mem k).1 (dk hk);have hm:t.toNat∈aK:=(o.mem _).2 (hR.step (tj ha) (dk h1));obtain⟨m,hm⟩:=rT hm;have BY:=K.at_ m _ hm;unfold Gj at h2;rw[BY] at h2;simp only[Option.getD_some] at h2;rw[<-h2];exact⟨by omega,by simpa using hm⟩
theorem vS.map (K:vS rs aK ats bH) (o:Qz rs aK) (f:XR->Nat) (hf: ∀(pk:List Int) (a b:XR),KR ats pk a b->f b=f a):(bH.map f).sum=((List.range rs.length).map fun i=>if decide (i∈aK) then((rs[i]?).map f).getD 0 else 0).sum:=by
 rw[<-Z5 o.nd o.lt (fun i=>((rs[i]?).map f).getD 0)];congr 1;refine zV fun i=> ?_;rw[tQ,tQ];rcases AV i aK.length with h|h
 .obtain⟨k,hk⟩: ∃k,aK[i]? =some k:=⟨_,aX h⟩;have qK:=o.lt k (dk hk);obtain⟨a,ha⟩: ∃a,rs[k]? =some a:=⟨_,aX qK⟩;obtain⟨b,hb⟩: ∃b,bH[i]? =some b:=⟨_,aX (by rw[K.len];exact h)⟩;obtain⟨pk,_,kr⟩:=K.r i k a b hk ha hb;rw[hk,hb];simp only[CJ];rw[ha,hf pk a b kr];rfl
 .rw[uI (by rw[K.len];exact h),uI h];rfl
theorem vS.CS (K:vS rs aK ats bH) (w:Seen rs) (o:Qz rs aK) (φ:Sh->Bool):fN φ bH=fN φ rs:=by
 unfold fN;rw[K.map o (fun r=>rR φ r.ls) (fun pk a b kr=>by rw[kr.ls]),<-Bw (fun r=>rR φ r.ls) 0 rs];congr 1;refine List.map_congr_left fun i hi=> ?_;by_cases hm:i∈aK
 .simp[hm]
 .have ff:i<rs.length:=by simpa using hi
  obtain⟨a,ha⟩: ∃a,rs[i]? =some a:=⟨_,aX ff⟩;rcases w i a ha with h|⟨_,_,h⟩
  .exact absurd ((o.mem i).2 h) hm
  .simp[hm,ha,h,rR]
theorem vS.less (K:vS rs aK ats bH) (o:Qz rs aK) (φ:Sh->Bool):fN φ bH<=fN φ rs:=by
 unfold fN;rw[K.map o (fun r=>rR φ r.ls) (fun pk a b kr=>by rw[kr.ls]),<-Bw (fun r=>rR φ r.ls) 0 rs];refine Md fun i hi=> ?_;split
 .exact dK _
 .exact Nat.zero_le _
theorem vS.tf (K:vS rs aK ats bH) (w:TF0 rs) (o:Qz rs aK):TF bH/\ ∀k,k<bH.length->Edge.Cy (bz bH) k:=by
 have back: ∀(i:Nat) (b:XR),bH[i]? =some b-> ∃k a pk,aK[i]? =some k/\rs[k]? =some a/\(Edge.bw (bz rs))[k]? =some pk/\KR ats pk a b:=by
  intro i b hb;have ff:i<aK.length:=by rw[<-K.len];exact(bY.mp hb).1
  obtain⟨k,hk⟩: ∃k,aK[i]? =some k:=⟨_,aX ff⟩;have qK:=o.lt k (dk hk);obtain⟨a,ha⟩: ∃a,rs[k]? =some a:=⟨_,aX qK⟩;obtain⟨pk,h1,h2⟩:=K.r i k a b hk ha hb;exact⟨k,a,pk,hk,ha,h1,h2⟩
 have all: ∀k,k<bH.length->Edge.Cy (bz bH) k:=by intro i hi;obtain⟨k,hk⟩: ∃k,aK[i]? =some k:=⟨_,aX (by rw[<-K.len];exact hi)⟩;have hR:=(o.mem k).1 (dk hk);exact Edge.Cy.tD o.nd o.h00 (fun x hx ts jT t ht=>(o.mem _).2 (((o.mem x).1 hx).step jT ht)) (K.ts w o) hk hR
 have Vp:aK.length<=rs.length:=by have:=gK_ o.nd (l₂:=List.range rs.length) (fun x hx=>NB.2 (o.lt x hx));simpa using this
 have h0:=(bY.mp o.h00).1;have Ez:=w.Ez;have hl:=K.len;have aiz: ∀(i:Nat),i<bH.length-> ∃k,aK[i]? =some k/\(Edge.rowOf (bz bH) i bH.length).length=((Edge.rowOf (bz rs) k (bz rs).length).filter (mo ats)).length:=by
  intro i hi;obtain⟨k,hk⟩: ∃k,aK[i]? =some k:=⟨_,aX (by rw[<-K.len];exact hi)⟩;have:=Edge.Eo o.nd (fun x hx=>by rw[dx];exact o.lt x hx) (by rw[dx];exact K.len) (K.ts w o) hk (mo ats) (fun x hx=>by
   rw[dx] at hx;unfold mo;simp only[decide_eq_true_eq,UI];by_cases hm:x∈aK
   .obtain⟨m,NT⟩:=rT hm;rw[K.at_ m x NT];simp only[Option.getD_some];exact⟨fun _=>hm,fun _=>by omega⟩
   .rw[K.no x hx hm];simp only[Option.getD_some];exact⟨fun h=>by omega,fun h=>absurd h hm⟩)
  rw[dx bH] at this;exact⟨k,hk,this⟩
 refine⟨⟨⟨by omega,by omega,fun b hb=> ?_,fun b hb t ht=> ?_,fun i b hb q hq=> ?_,?_,fun b hb x hx=> ?_,fun i hi=> ?_⟩,fun i b hb=> .inl (all i (bY.mp hb).1)⟩,all⟩
 .obtain⟨i,hi⟩:=rT hb;obtain⟨k,a,pk,hk,ha,h1,kr⟩:=back i b hi;unfold TM;rw[kr.kind,kr.ts];rcases w.kind a (dk ha) with⟨h,e⟩|⟨h,t,e⟩|⟨h,t,u,e⟩
  .exact .inl ⟨h,by rw[e];rfl⟩
  .exact .inr (.inl ⟨h,_,by rw[e];rfl⟩)
  .exact .inr (.inr ⟨h,_,_,by rw[e];rfl⟩)
 .obtain⟨i,hi⟩:=rT hb;obtain⟨k,a,pk,hk,ha,h1,kr⟩:=back i b hi;obtain⟨ts,BC,e1,e2,e3,e4⟩:=K.ts w o i k hk;rw[tj ha] at e1;cases e1;rw[tj hi] at e2;cases e2;obtain⟨j,hj⟩:=rT ht;obtain⟨t0,Tq⟩: ∃t,a.ts[j]? =some t:=⟨_,aX (by rw[<-e3];exact(bY.mp hj).1)⟩;obtain⟨p0,p1⟩:=e4 j t0 t Tq hj;have p2:=(bY.mp p1).1;refine⟨?_,by omega⟩;rcases tP t.toNat with h|h
  .rw[h,o.h00] at p1;have:=w.to a (dk ha) t0 (dk Tq);have p3:=Option.some.inj p1;omega
  .omega
 .obtain⟨k,a,pk,hk,ha,h1,kr⟩:=back i b hb;obtain⟨j,hj⟩:=rT hq;obtain⟨p,hp⟩: ∃p,a.ps[j]? =some p:=⟨_,aX (by rw[<-kr.pl];exact(bY.mp hj).1)⟩;rw[(kr.ps j q p hj hp).2];have zo:=Edge.qe w.nat h1;obtain⟨k2,BZ,this⟩:=aiz i (bY.mp hb).1;rw[hk] at BZ;cases BZ;rw[this,<-zo]
 .rw[K.map o oN (fun pk a b kr=>by simp only[oN];rw[kr.ls,kr.pl])];refine ug (Md (g:=fun i=>((rs[i]?).map oN).getD 0) (fun i _=> ?_)) ?_
  .split
   .exact dK _
   .exact Nat.zero_le _
  .rw[Bw];exact w.sum
 .obtain⟨i,hi⟩:=rT hb;obtain⟨k,a,pk,hk,ha,h1,kr⟩:=back i b hi;rw[kr.ls] at hx;exact w.al a (dk ha) x hx
 .obtain⟨k,hk,e⟩:=aiz i hi;rw[e,dx];exact Nat.lt_of_le_of_lt (QT _ _) (w.short k (o.lt k (dk hk)))
end
def RY (rs:List XR):List Nat:=(Dfs.lH (Edge.vf (bz rs)) rs.length).reverse
def aby (rs:List XR) (h:ae) (v:Value) (h':ae):Prop:=ab aG h h'/\ ∃L:SV,v=L.v/\cI bp h.next h' L.v (nI (RY rs))
theorem LD (ok:bu h) {name:ByteArray} {p r:Int} (O:mF h n0 ai κ cap B rs) (w:TF0 rs):
  aF FF pf [.agg ⟨au name p r B⟩] h (aby rs h):=by
 obtain⟨bs,IP,hV⟩:=O.view;have E:=hV.ends w.tok;have Br:=hV.dw;have pc:bs.length=rs.length:=hV.1;have h0:0<bs.length:=by rw[pc];exact w.n1
 refine(EP ok (name:=name) (p:=p) (r:=r) IP E h0).mono ?_;rintro v h' ⟨g,L,rfl,hL⟩;refine⟨g,L,rfl,?_⟩;have e1:py bs=Edge.vf (bz rs):=by rw[<-Br];simp[py,bj,Edge.vf]
 have e2:(pW bs).reverse=nI (RY rs):=by unfold pW nI RY;rw[e1,pc,List.map_reverse]
 rw[<-e2];exact hL
def abw (name:ByteArray) (p r:Int) (n0 ai:Nat) (κ0:Nat->Nat) (rs:List XR) (h:ae) (v:Value) (h':ae):Prop:=
 ab (fun b=>κ0 b=3\/κ0 b=5) h h'/\ ∃(B':SV) (bH:List XR) (κ cap:Nat->Nat),v= .agg ⟨au name p r B'⟩/\(∀x,x<h.next->κ x=κ0 x)/\mF h' n0 ai κ cap B' bH/\TF bH/\(∀k,k<bH.length->Edge.Cy (bz bH) k)/\ ∀φ,fN φ bH<=fN φ rs/\(Seen rs->fN φ bH=fN φ rs)
theorem PY (ok:bu h) {name:ByteArray} {p r:Int} {κ0 ub:Nat->Nat} {B O:SV} (W:mF h n0 ai κ0 ub B rs) (um:n0<=h.next) (w:TF0 rs) {m:Nat} (hO:cI bp m h O.v (nI (RY rs))) (κO: ∀x,m<=x->κ0 x=0):
  aF FF wR [.agg ⟨au name p r B⟩,O.v] h (abw name p r n0 ai κ0 rs h):=by
 have o:=aoY w;refine(Ru ok W um (aK:=RY rs) ⟨w.tok,w.Ez,w.JC,o.nd,o.lt,fun r hr=>by have:=(w.size r hr).1;omega,w.Ff⟩ hO.sl (fun _ b hb=>κO b (hO.of hb))).mono ?_;rintro v h' ⟨g,B',bH,κ,cap,ats,e,iM,O',hl,C0,BY,Vk,hr⟩;have K:vS rs (RY rs) ats bH:=⟨hl,C0,BY,Vk,hr⟩;obtain⟨T',R'⟩:=K.tf w o;exact⟨g,B',bH,κ,cap,e,iM,O',T',R',fun φ=>⟨K.less o φ,fun sn=>K.CS sn o φ⟩⟩
end Go.Proofs.YtdhnndleffachaaGreatDoor
