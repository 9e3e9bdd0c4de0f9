/- Parts of the proof. -/
import Derived.Test.YtdhnndleffachaaGreatDoorP06
import Derived.Test.YtdhnndleffachaaGreatDoorP05
import Derived.Test.YtdhnndleffachaaGreatDoorP02
set_option linter.all false
namespace Go.Proofs.YtdhnndleffachaaGreatDoor
open Go.AI
variable{A B F' M:SV}{F U V X Y ag b bB d i j k kk m n n0 sF sU sV sX sY to u:Nat}{QQ:aO->Env->ab->Prop}{bs:List GB}{c p rg s:Int}{c_ rs:List XR}{cap sH κ κ0:Nat->Nat}{cs:List XI}{e e2:Env}{f:GF}{h h' h1 h2 hS hV:ab}{ms:List Mv}{name:ByteArray}{q:Int×SV}{r' r0 rb rt:XR}{v:Bool×Int}{v2:Value}{ws:List SV}{x:XI}{xc:List Value}{α:Type}
theorem apG(ok:bl h){F:SV}{b o s:Nat}{vs:List (Bool×Int)}(ha:F.a=some ⟨b,0,none⟩)(hc:F.c=vs.length)(dQ:F.l<F.c)(cj:F.l<1000000)(hb:h.tr.get b=some (.aC (bY.flat vs) false o s)){x xs:Nat}{y:Bool×Int}(hx:h.tr.get x=some (.aC [.bool y.1,.int .i64 y.2] false 0 xs)):∃h',iQ h [.bool false,.int .i64 0] 16 false F.v (.slice (some ⟨x,0,none⟩) 1 1)=some (.slice (some ⟨b,0,none⟩) (F.l+1) F.c,h')/\aa (· =b) h h'/\∃s,h'.tr.get b=some (.aC (bY.flat (vs.set F.l y)) false o s):=by
 have hw:aL bY h (.slice (some ⟨x,0,none⟩) 1 1) [y]:=jR hx;have r1:roomy (F.l+1)=true:=by simp[roomy];omega
 have r2:roomy ((F.l+1)*16)=true:=by simp[roomy];omega
 have q1:F.l+1<=F.c:=dQ;have hf:F.l*2+2<=vs.length*2:=by omega
 have hn:(bY.enc y).length=2:=rfl;refine⟨put h b (F.l*2) (bY.flat vs) (bY.enc y) o,?_,aJ ok hb,h.clock,?_⟩
 .unfold iQ;rw[v5 (E:=bY) (z:=[.bool false,.int .i64 0]) rfl hw];simp[eA,ha,r1,r2,q1,hb,hf]
 .rw[aA];have:=bY.dS vs F.l y (by omega);simp only[eB] at this;rw[this]
def aoC:List Nat:=(List.range 20).map (· +65)
theorem WW(ok:bl h)(O:kW h n0 ag κ cap B rs){F X1 X2 y i k sF:Nat}(hF:h.tr.get F=some (.aC (aj name p rg B) false 0 sF))(κF:κ F=0){r:XR}(hr:rs[y]?=some r)(hq:r.ps[i]?=some q)(qq:∃s,h.tr.get X1=some (.aC [.int .i64 q.1,q.2.v] false 0 s))(κ1:κ X1=0)(ef:∃s,h.tr.get X2=some (.aC [.bool v.1,.int .i64 v.2] false 0 s))(κ2:κ X2=0)(hv:h_ ag v)(hk:k<q.2.l)(Qm:q.2.l<1000000)(fu:r.ps.length<1000000)(f0:ai e 0=.pointer (some ⟨F,0,none⟩))(f2:ai e 2=.int .i64 y)(f7:ai e 7=.int .i64 k)(f9:ai e 9=.int .i64 i)(f10:ai e 10=.pointer (some ⟨X1,0,none⟩))(f11:ai e 11=.pointer (some ⟨X2,0,none⟩))(C:∀e' h' F',ax aoC e e'->aa (fun b=>κ b=1\/κ b=3) h h'->F'.l=q.2.l->kW h' n0 ag κ cap B (rs.set y {r with ps:=r.ps.set i (q.1,F')})->QQ .normal e' h'):az FF JU e h QQ:=by
 obtain⟨s1,qq⟩:=qq;obtain⟨s2,ef⟩:=ef;have R:=O.os.r y r hr;have vC:=(bK.mp hr).1;have afE:=(bK.mp hq).1;obtain⟨bB,cs,oB,sB,dZ,Ak,Ur,dV,cS,jh⟩:=O.A.el hr;have κB:κ bB=2:=O.kB bB (bC dZ);have N2:=cS 0 1 (by decide);simp[-ae] at N2;have P9:=O.A.len;have dX:=hF;simp[aj] at dX;rw[dZ,P9] at dX;have agi:=ok.st _ _ _ _ _ hF;have abF:=ok.st _ _ _ _ _ Ak;have agh:=ok.st _ _ _ _ _ qq;have Ar:=ok.st _ _ _ _ _ ef;have oF:=ok.bE hF;have oX2:=ok.bE ef;obtain⟨hVl,hVA|⟨b,ON,Nn,hVc⟩⟩:=(R.ps q (bU hq)).2
 .omega
 obtain⟨vs,o,s,hb,ho,Jc,vB⟩:=O.os.V b Nn;have iF:=R.P.len;have wk:=wrap_i64 ((k:Int)+1) (by omega) (by omega);simp at qq;rw[ON] at qq;unfold JU;simp[f0,f2,f7,f9,f10,f11,dX,vC,N2,qq,ef,wk,-ae,aq dX,aq qq,aq ef,aB,aN,oF,oX2];refine aZ.cut (fun h2=>aa aG h h2/\h.clock<=h2.clock/\h2.tr.get h.next=some (.aC [.bool v.1,.int .i64 v.2] false 0 0)) ?_ ?_
 .exact⟨(aS ok).trans (aH (aS ok).ok _ _),Nat.le_succ _,by simp⟩
 rintro h2⟨g2,F9,uN⟩;have cC:=g2.get ok hb;have CA:=g2.get ok Ak;have MY:=g2.get ok dX;have aff:=g2.get ok ef;have O2:=O.aX ok g2;refine aZ.call (V:=WJ q.2 b o vs (q.2.l-1) (false,0) h2) (by simpa [ON] using II g2.ok (F:=q.2) ON (by omega) hVl ho cC k hk Qm) ?_;rintro _ h3⟨F3,vs3,rfl,ha3,XY,hc3,g3,⟨s3,vk⟩,hvl3,hvv3⟩;have O3:=O2.CZ g2.ok Nn g3 ⟨s3,vk⟩ ho (by omega) (fun v hv=>by
  rcases hvv3 v hv with h|h
  .exact vB v h
  .rw[h];intro h;cases h)
 have nb1:¬h.next=b:=fun e=>by have:=ok.wf _ _ hb;omega
 have nb2:¬X2=b:=fun e=>by rw[e] at κ2;omega
 have nbF:¬F=b:=fun e=>by rw[e] at κF;omega
 have nbB:¬bB=b:=fun e=>by rw[e] at κB;omega
 have vT:=g3.get g2.ok uN nb1;have afg:=g3.get g2.ok aff nb2;have qL:=g3.get g2.ok MY nbF;have Al:=g3.get g2.ok CA nbB;simp[f11,afg,vT,Ar];obtain⟨h4,ha4,g4,s4,HC⟩:=apG g3.ok (F:=F3) (by rw[ha3,ON]) (by omega) (by omega) (by omega) vk vT;refine tw (by simpa using ha4) ?_;clear ha4;have O4:=O3.CZ g3.ok Nn g4 ⟨s4,HC⟩ ho (by simp;omega) (fun w hw=>by
  rcases Em hw with h|h
  .rcases hvv3 w h with h|h
   .exact vB w h
   .rw[h];intro h;cases h
  .rw[h];exact hv)
 have zt:=g4.get g3.ok qL nbF;have aeU:=g4.get g3.ok Al nbB;have R4:=(O4.os.r y r hr).P;obtain⟨bP,csP,oP,sP,oG,hPb,hjP,Na,Yg,Nj⟩:=R4.el hq;have κP:κ bP=3:=R.kP bP (bC oG);have EG:=Na 1 1 (by decide);simp at EG;have eP:r.P.v=.slice (some ⟨bP,0,none⟩) r.ps.length r.P.c:=by rw[show r.P.v=.slice r.P.a r.P.l r.P.c from rfl,oG,iF]
 have gw:aa (· =bP) h4 (put h4 bP (i*2+1) csP [.slice (some ⟨b,0,none⟩) (F3.l+1) F3.c] oP):=aJ g4.ok hPb;have gw':aa (aw r.P.v) h4 (put h4 bP (i*2+1) csP [.slice (some ⟨b,0,none⟩) (F3.l+1) F3.c] oP):=gw.bH (fun x _ e=>e▸bC oG);have A5:=Nj (q.1,⟨some ⟨b,0,none⟩,F3.l+1,F3.c⟩) 1 [.slice (some ⟨b,0,none⟩) (F3.l+1) F3.c] (by simp) rfl (put h4 bP (i*2+1) csP [.slice (some ⟨b,0,none⟩) (F3.l+1) F3.c] oP) ⟨_,aA _ _ _ _ _ _⟩;simp[zt,aeU,agi,abF,oG,iF,afE,hPb,EG];refine C _ _ ⟨some ⟨b,0,none⟩,F3.l+1,F3.c⟩ ?_ ?_ (by show F3.l+1=_;omega) ⟨O4.os.ZQ g4.ok hr gw' A5 rfl (fun p hp=>?_),?_,O4.kB⟩
 .repeat (refine ax.set ?_)
  exact ax.refl _ _
 .have w1:∀x,x=b->(κ x=1\/κ x=3):=fun x e=>.inl (by rw[e];exact Nn);exact((g2.aX.trans (g3.bH (fun x _ e=>w1 x e))).trans (g4.bH (fun x _ e=>w1 x e))).trans (gw.bH (fun x _ e=>.inr (by rw[e];exact κP)))
 .rcases Em hp with h|h
  .exact R.ps p h
  .rw[h];exact⟨(R.ps q (bU hq)).1,by show F3.l+1<=F3.c;omega,.inr ⟨b,rfl,Nn,by show F3.c=_;omega⟩⟩
 .refine xF (O4.A.grow g4.ok gw (fun x hx e=>by have:=O4.kB x hx;rw[e] at this;omega)) (by simp) (fun m a c h1 h2=>?_);rw[eu] at h2;by_cases e1:y=m
  .subst e1;rw[aY rfl,aY vC] at h2;cases h2;rw[hr] at h1;cases h1;rfl
  .rw[bc e1] at h2;rw[h1] at h2;cases h2;rfl
def aiG:List Nat:=[9,10,11]++(List.range 31).map (· +55)
def aoB(h:ab)(n0 ag:Nat)(κ cap:Nat->Nat)(B:SV)(rs:List XR)(y:Nat)(r:XR)(e:Env)(m:Nat)(e':Env)(h':ab):Prop:=
 ∃(i:Nat) (qs:List (Int×SV)),m=r.ps.length-i/\i<=r.ps.length/\ax aiG e e'/\ai e' 55=.int .i64 i/\aa (fun b=>κ b=1\/κ b=3) h h'/\kW h' n0 ag κ cap B (rs.set y {r with ps:=qs})/\jB qs r.ps
theorem WX(ok:bl h)(O:kW h n0 ag κ cap B rs)(qk:n0<=h.next){F y k l sF:Nat}(hF:h.tr.get F=some (.aC (aj name p rg B) false 0 sF))(κF:κ F=0){r:XR}(hr:rs[y]?=some r)(hl:∀q∈r.ps,q.2.l=l)(hk:k<l)(yZ:l<1000000)(xh:r.ps.length<1000000)(f0:ai e 0=.pointer (some ⟨F,0,none⟩))(f2:ai e 2=.int .i64 y)(f7:ai e 7=.int .i64 k)(f53:ai e 53=r.P.v)(f54:ai e 54=.int .i64 r.ps.length)(f55:ai e 55=.int .i64 0)(C:∀e' h' qs,ax aiG e e'->aa (fun b=>κ b=1\/κ b=3) h h'->kW h' n0 ag κ cap B (rs.set y {r with ps:=qs})->jB qs r.ps->QQ (.exit 0) e' h'):az FF (.loop nE) e h QQ:=by
 have vC:=(bK.mp hr).1;have xQ:rs.set y {r with ps:=r.ps} =rs:=by
  refine yT fun m=>?_;rw[eu];by_cases e:y=m
  .subst e;rw[aY rfl,aY vC,hr]
  .rw[bc e]
 refine az.loop (aoB h n0 ag κ cap B rs y r e) ?_ (n:=r.ps.length) ⟨0,r.ps,rfl,by omega,ax.refl _ _,f55,.refl ok,by rw[xQ];exact O,jB.refl _⟩;rintro m e' h'⟨i,qs,rfl,hi,K,OV,g,O',S⟩;have cw:=g.ok;have q0:=K.at f0;have q2:=K.at f2;have q7:=K.at f7;have q53:=K.at f53;have OU:=K.at f54;unfold nE;by_cases fu:i<r.ps.length
 .have wi:=wrap_i64 ((i:Int)+1) (by omega) (by omega);obtain⟨p0,SD⟩:=ay r.ps i fu;obtain⟨q,hq⟩:=ay qs i (by rw[S.1];exact fu);have Qm:q.2.l=l:=by rw[(S.2 i q p0 hq SD).2];exact hl p0 (bU SD)
  have rq:(rs.set y {r with ps:=qs})[y]?=some {r with ps:=qs} :=by rw[eu,aY rfl,aY vC]
  have R:=O'.os.r y _ rq;have RP:fS lu h' r.P qs:=R.P;obtain⟨hVl,hVA|⟨b,ON,Nn,hVc⟩⟩:=(R.ps q (bU hq)).2
  .omega
  obtain⟨vs,o,s,hb,ho,Jc,vB⟩:=O'.os.V b Nn;obtain⟨v,hv⟩:=ay vs k;obtain⟨bP,csP,oP,sP,oG,hPb,hjP,Na,Yg,Nj⟩:=RP.el hq;have r0:=Yg 0 2 (by decide);simp[-ae] at r0;have iF:=RP.len;have rv:aV h' b (k*2) 2=some [.bool v.1,.int .i64 v.2]:=by rw[cx hb (by rw[bY.bh,eB];omega)];have:=bY.pJ vs k v hv;simp only[eB] at this;rw[this];rfl
  simp at q53;rw[oG,iF,S.1] at q53;have pc:k<q.2.l:=by omega
  have ob:=cw.bE hb;have nb1:¬b=h'.next:=by have:=ob.lt;omega
  have nb2:¬b=h'.next+1:=by have:=ob.lt;omega
  simp[q53,OU,OV,q7,fu,pc,r0,rv,ON,ob,nb1,nb2,-ae,au,bj,aN,aB];refine az.cut (fun h2=>aa aG h' h2/\(∃s,h2.tr.get h'.next=some (.aC [.int .i64 q.1,q.2.v] false 0 s))/\∃s,h2.tr.get (h'.next+1)=some (.aC [.bool v.1,.int .i64 v.2] false 0 s)) ?_ ?_
  .have n1:¬h'.next=h'.next+1:=by omega
   exact⟨((aa.refl cw).var _ _).var _ _,⟨h'.clock,by simp[aR,ON,n1]⟩,⟨h'.clock+1,by simp[aR]⟩⟩
  rintro h2⟨g2,qq,ef⟩;have ln:=g.next;have κn:∀x,h'.next<=x->κ x=0:=fun x hx=>by
   rcases uM (κ x) with h|h
   .exact h
   .have:=(O'.os.new x (by omega)).2;omega
  refine WW g2.ok (O'.aX cw g2) (F:=F) (X1:=h'.next) (X2:=h'.next+1) (y:=y) (i:=i) (k:=k) (v:=v) (q:=q) (g2.get cw (g.get ok hF (by omega))) κF rq hq qq (κn _ (by omega)) ef (κn _ (by omega)) (vB v (bU hv)) (by omega) (by omega) (by show qs.length<_;rw[S.1];exact xh) (by simp[q0]) (by simp[q2]) (by simp[q7]) (by simp) (by simp) (by simp) ?_;intro e3 h3 F' K3 g3 u5 O3;have k55:=K3.at (t:=55) (by simp;exact OV);rw[List.set_set] at O3;simp[k55,wi];refine⟨r.ps.length-(i+1),by omega,i+1,qs.set i (q.1,F'),rfl,fu,?_,by simp,g.trans (g2.aX.trans g3),O3,S.set hq u5⟩;refine ax.set (ax.set (ax.trans ?_ (K3.bH)))
  repeat (refine ax.set ?_)
  exact K
 .have:i=r.ps.length:=by omega
  subst this;simp[OU,OV];exact C _ _ qs (ax.set K) g O' S
def Two(rs:List XR):Prop:=∀r∈rs,r.kind=3->∃t u,r.ts=[t,u]/\t≠u
section
variable{rs bD:List XR}{b to oth:Nat}
end
structure vE(rs bD:List XR)(b u i:Nat)(ts:List Int):Prop where
 hb:∃r,rs[b]?=some r/\r.ts=ts
 hi:ts[i]?=some (u:Int)
 len:bD.length=rs.length+1
 at_:∀(k:Nat)(r r':XR),rs[k]?=some r->bD[k]?=some r'->r'.ls=r.ls/\jB r'.ps r.ps/\r'.kind=r.kind/\(k=b->r'.ts=ts.set i (rs.length:Int))/\(k≠b->r'.ts=r.ts)
 last:∃r',bD[rs.length]?=some r'/\r'.kind=2/\r'.ts=[(u:Int)]/\r'.ps=[]/\r'.ls=[]
section
variable{rs bD:List XR}{b u i:Nat}{ts:List Int}
theorem vE.get(C:vE rs bD b u i ts)(h:bD[k]?=some r'):(∃r,rs[k]?=some r)\/k=rs.length:=by
 have hk:=(bK.mp h).1;rw[C.len] at hk;rcases Ae k rs.length with h1|h1
 .exact .inl ⟨_,ff h1⟩
 .exact .inr (by omega)
theorem vE.bN(C:vE rs bD b u i ts):bx bD=Edge.jY (bx rs) b i u ts:=by
 obtain⟨rb,hb,rfl⟩:=C.hb;have hbt:(bx rs)[b]?=some rb.ts:=jy hb;have ku:=ck rs;refine yT fun k=>?_;rcases Ae k bD.length with hk|hk
 .obtain⟨r',DD⟩:=ay bD k hk;rw[jy DD];rcases C.get DD with⟨r,hr⟩|e
  .obtain⟨_,_,_,h1,h2⟩:=C.at_ k r r' hr DD;by_cases e:k=b
   .subst e;rw[h1 rfl,Edge.Cc hbt,ku]
   .rw[h2 e,Edge.C1 e (by rw[ku];exact(bK.mp hr).1),jy hr]
  .subst e;obtain⟨r2,uP,_,h2,_⟩:=C.last;rw[DD] at uP;cases uP;rw[h2,<-ku,Edge.Hq]
 .rw[qY (by rw[ck];exact hk),qY (by rw[Edge.Hp,ku,<-C.len];exact hk)]
theorem vE.at2(C:vE rs bD b u i ts){r:XR}(hr:rs[k]?=some r):∃r',bD[k]?=some r':=⟨_,ff (by rw[C.len];have:=(bK.mp hr).1;omega)⟩
theorem vE.map{f:XR->Nat}(C:vE rs bD b u i ts)(h0:∀r,r.ps=[]->r.ls=[]->f r=0)(hf:∀r r',r'.ls=r.ls->jB r'.ps r.ps->f r'=f r):(bD.map f).sum=(rs.map f).sum:=by
 obtain⟨r2,uP,_,_,h3,h4⟩:=C.last;have e:bD.map f=rs.map f++[0]:=by
  refine yT fun k=>?_;rw[tV];rcases Ae k rs.length with hk|hk
  .obtain⟨r,hr⟩:=ay rs k hk;obtain⟨r',DD⟩:=C.at2 hr;obtain⟨a1,a2,_⟩:=C.at_ k r r' hr DD;rw[FX (by simpa using hk),tV,hr,DD];simp only[EF];rw[hf r r' a1 a2]
  .rw[HA (by simpa using hk)];by_cases e:k=rs.length
   .subst e;rw[uP];simp[h0 r2 h3 h4]
   .rw[qY (by rw[C.len];omega),qY (by simp;omega)];rfl
 rw[e,List.sum_append_nat];simp
theorem vE.lZ(C:vE rs bD b u i ts)(φ:Sh->Bool):gO φ bD=gO φ rs:=C.map (fun r _ h=>by rw[h];rfl) (fun r r' h _=>by rw[h])
theorem vE.size(C:vE rs bD b u i ts):(bD.map eT).sum=(rs.map eT).sum:=C.map (fun r h k=>by unfold eT;rw[h,k];rfl) (fun r r' h k=>by unfold eT;rw[h,k.1])
theorem vE.two(C:vE rs bD b u i ts)(w:Two rs)(w0:TF0 rs):Two bD:=by
 intro r' h h3;obtain⟨k,hk⟩:=oD h;rcases C.get hk with⟨r,hr⟩|e
 .obtain⟨_,_,a3,h1,h2⟩:=C.at_ k r r' hr hk;obtain⟨x,y,e2,ct⟩:=w r (bU hr) (by rw[<-a3];exact h3);have yr:=w0.to r (bU hr);by_cases e:k=b
  .obtain⟨rb,Qn,Sm⟩:=C.hb;rw[<-e,hr] at Qn;cases Qn;have hi:=C.hi;rw[h1 e,<-Sm,e2];rw[<-Sm,e2] at hi;have hx:=yr x (by rw[e2];simp);have hy:=yr y (by rw[e2];simp);rcases i with _|_|i
   .exact⟨_,_,rfl,by omega⟩
   .exact⟨_,_,rfl,by omega⟩
   .simp at hi
  .rw[h2 e];exact⟨x,y,e2,ct⟩
 .subst e;obtain⟨r2,uP,h1,_⟩:=C.last;rw[hk] at uP;cases uP;omega
theorem vE.tf(C:vE rs bD b u i ts)(w:TF0 rs)(hl:rs.length<72):TF0 bD:=by
 obtain⟨rb,hb,Sm⟩:=C.hb;have ku:=ck rs;have hbt:(bx rs)[b]?=some ts:=by rw[jy hb,Sm]
 have rp:=Edge.Vv hbt C.hi w.nat;have ot:=C.bN;rw[<-ot] at rp;have hn:(bx bD).length=bD.length:=ck bD;have u1:=w.to rb (bU hb) u (by rw[Sm];exact bU C.hi);have re:∀r'∈bD,∃k,bD[k]?=some r':=fun r' h=>oD h;refine⟨by rw[C.len];omega,by rw[C.len];omega,fun r' h=>?_,fun r' h t ht=>?_,fun k r' hk q hq=>?_,?_,fun r' h x hx=>?_,fun k hk=>?_⟩
 .obtain⟨k,hk⟩:=re r' h;rcases C.get hk with⟨r,hr⟩|e
  .obtain⟨_,_,a3,h1,h2⟩:=C.at_ k r r' hr hk;have K:=w.kind r (bU hr);unfold Ts at K⊢;rw[a3];by_cases e:k=b
   .rw[<-e,hr] at hb;cases hb;rw[h1 e];rw[Sm] at K;rcases K with⟨k1,k2⟩|⟨k1,x,k2⟩|⟨k1,x,y,k2⟩
    .exact .inl ⟨k1,by rw[k2];rfl⟩
    .rw[k2];refine .inr (.inl ⟨k1,?_⟩);rcases i with _|i
     .exact⟨_,rfl⟩
     .exact⟨_,rfl⟩
    .rw[k2];refine .inr (.inr ⟨k1,?_⟩);rcases i with _|_|i
     .exact⟨_,_,rfl⟩
     .exact⟨_,_,rfl⟩
     .exact⟨_,_,rfl⟩
   .rw[h2 e];exact K
  .subst e;obtain⟨r2,uP,h1,h2,_⟩:=C.last;rw[hk] at uP;cases uP;exact .inr (.inl ⟨h1,_,h2⟩)
 .rw[C.len];obtain⟨k,hk⟩:=re r' h;rcases C.get hk with⟨r,hr⟩|e
  .obtain⟨_,_,_,h1,h2⟩:=C.at_ k r r' hr hk;have K:=w.to r (bU hr);have n1:=w.n1;by_cases e:k=b
   .rw[<-e,hr] at hb;cases hb;rw[h1 e] at ht;rcases Em ht with h|h
    .have:=K t (by rw[Sm];exact h);omega
    .omega
   .rw[h2 e] at ht;have:=K t ht;omega
  .subst e;obtain⟨r2,uP,h1,h2,_⟩:=C.last;rw[hk] at uP;cases uP;rw[h2] at ht;simp at ht;omega
 .rw[<-hn,rp k];rcases C.get hk with⟨r,hr⟩|e
  .obtain⟨_,a2,_⟩:=C.at_ k r r' hr hk;have pc:=(bK.mp hr).1;rw[bc (by rw[ku];omega),ku];obtain⟨m,hm⟩:=oD hq;obtain⟨p0,SD⟩:=ay r.ps m (by rw[<-a2.1];exact(bK.mp hm).1);rw[(a2.2 m q p0 hm SD).2];exact w.rows k r hr p0 (bU SD)
  .subst e;obtain⟨r2,uP,_,_,h3,_⟩:=C.last;rw[hk] at uP;cases uP;rw[h3] at hq;cases hq
 .rw[C.size];exact w.sum
 .obtain⟨k,hk⟩:=re r' h;rcases C.get hk with⟨r,hr⟩|e
  .obtain⟨a1,_⟩:=C.at_ k r r' hr hk;rw[a1] at hx;exact w.al r (bU hr) x hx
  .subst e;obtain⟨r2,uP,_,_,_,h4⟩:=C.last;rw[hk] at uP;cases uP;rw[h4] at hx;cases hx
 .rw[<-hn,rp k];by_cases e:k=rs.length
  .rw[aY (by rw[ku];exact e)];decide
  .rw[bc (by rw[ku];exact e),ku];exact w.short k (by rw[C.len] at hk;omega)
theorem vE.seen(C:vE rs bD b u i ts)(w:TF0 rs)(S:Seen rs):Seen bD:=by
 obtain⟨rb,hb,Sm⟩:=C.hb;have ku:=ck rs;have hbt:(bx rs)[b]?=some ts:=by rw[jy hb,Sm]
 intro k r' hk;rcases C.get hk with⟨r,hr⟩|e
 .obtain⟨a1,a2,a3,_⟩:=C.at_ k r r' hr hk;rcases S k r hr with h|⟨h1,h2,h3⟩
  .left;rw[C.bN];exact Edge.va.split hbt C.hi w.nat h
  .refine .inr ⟨by rw[a3];exact h1,?_,by rw[a1];exact h3⟩;have:=a2.1;rw[h2] at this;exact IX this
 .left;rw[C.bN,e,<-ku];refine Edge.va.acJ hbt C.hi w.nat ?_;rcases S b rb hb with h|⟨h1,_⟩
  .exact h
  .exfalso;have hm:=w.kind rb (bU hb);have hi:=C.hi;rcases hm with⟨_,h⟩|⟨h,_⟩|⟨h,_⟩
   .rw[<-Sm,h] at hi;simp at hi
   .omega
   .omega
end
theorem cH.exq{κ κ' cap:Nat->Nat}(w:cH h n0 ag κ cap rs)(e:∀b,κ b≠0->κ' b=κ b)(e1:∀b,κ' b=1->κ b=1)(new:∀b,κ' b≠0->n0<=b/\b<h.next):cH h n0 ag κ' cap rs:=
 ⟨fun i r hr=>(w.r i r hr).congr (fun b hb=>⟨e b hb,rfl⟩),w.dP,w.dL,w.dT,fun b hb=>w.V b (e1 b hb),new⟩
def aeb(name:ByteArray)(p rg:Int)(n0 ag:Nat)(κ:Nat->Nat)(rs:List XR)(b u:Nat)(ts:List Int)(F:Nat)(h:ab)(_:Value)(h':ab):Prop:=
 aa (fun x=>κ x≠0\/x=F) h h'/\∃(B':SV) (bD:List XR) (κ' iN:Nat->Nat) (i:Nat),(∃s,h'.tr.get F=some (.aC (aj name p rg B') false 0 s))/\(∀x,x<h.next->κ' x=κ x)/\kW h' n0 ag κ' iN B' bD/\vE rs bD b u i ts
theorem JV(ok:bl h)(O:kW h n0 ag κ cap B rs)(qk:n0<=h.next)(hF:h.tr.get F=some (.aC (aj name p rg B) false 0 sF))(κF:κ F=0)(w:TF0 rs)(hl:rs.length<72)(hb:rs[b]?=some rb)(hu:(u:Int)∈rb.ts):aE FF wR [.pointer (some ⟨F,0,none⟩),.int .i64 b,.int .i64 u] h (aeb name p rg n0 ag κ rs b u rb.ts F h):=by
 classical
 have ku:=ck rs;obtain⟨bs,Ia,hV⟩:=O.view;have E:=hV.ends w.tok;have As:=hV.dD;have ma:=(bK.mp hb).1;have Wa:=bU hb;have uj:=w.to rb Wa u hu;have xg:u<rs.length:=by omega
 obtain⟨ru,hru⟩:=ay rs u xg;have cV:=O.A.len;have dX:=hF;simp[aj] at dX;have oF:=ok.bE hF;obtain⟨bB,cs,oB,sB,dZ,Ak,Ur,dV,cS,jh⟩:=O.A.el hb;have κB:κ bB=2:=O.kB bB (bC dZ);rw[dZ,cV] at dX;refine aE.of Eb ?_;unfold wD;simp[dX];refine aF.call (V:=fun v h'=>aa aG h h'/\∃d ws,v=.slice (some ⟨d,0,none⟩) bs.length bs.length/\je bg h.next h' d ws (Edge.bp (bt bs))) (by have:=jk ok (name:=name) (p:=p) (r:=rg) Ia E;simpa [aj,dZ,cV] using this) ?_
 rintro _ h1⟨g1,d,ws,rfl,w1⟩;rw[As] at w1;have Et:u<bs.length:=by rw[hV.1];exact xg
 obtain⟨pu,SE⟩:=ay (Edge.bp (bx rs)) u (by rw[Edge.cR,ku];exact xg);obtain⟨wu,hwu⟩:=ay ws u (by rw[w1.len,Edge.cR,ku];exact xg);have re:(b:Int)∈pu:=by have:=(Edge.mL w.nat (u:=u) (x:=(b:Int))).2 ⟨b,rfl,rb.ts,jy hb,(u:Int),hu,by simp⟩;rw[SE] at this;exact this
 have xh:pu.length<50:=w.Hn pu (bU SE);obtain⟨sd,hd⟩:=w1.aC;have OX:=oh hd hwu;simp[-ae] at OX;simp[Et,OX,-ae];refine aF.call (V:=fun v h2=>h2=h1/\∃k:Nat,v=.int .i64 k/\pu[k]?=some (b:Int)) (by simpa using xR ((w1.acc u wu pu hwu SE).sl) (by omega) re) ?_;rintro _ h1⟨rfl,k,rfl,hk⟩;have pc:=(bK.mp hk).1;have O1:=O.aX ok g1;have ta:=g1.get ok dX;have aeW:=g1.get ok hF;have aa_:=g1.get ok Ak;have R1:=O1.os.r b rb hb;have vj:=R1.T.len;have rdT:∀h2,aa aG h1 h2->aV h2 bB (b*6+2+3) 1=some [rb.T.v]:=fun h2 g=>by have a:=O.A.aX ok (g1.trans g);obtain⟨Sf,TR,oB',sB',ir,_,_,_,Yc,_⟩:=a.el hb;rw[dZ] at ir;cases ir;have:=Yc 5 1 (by decide);simpa [-ae,AL] using this
 have gt:=aS g1.ok;have rT:=rdT _ gt;rw[aB] at rT;simp[-ae] at rT;have oB1:=g1.ok.bE aa_;have abF:=(aS g1.ok).ok.st _ _ _ _ _ aa_;have alK:=g1.ok.st _ _ _ _ _ aa_;simp[ta,ma,rT,aB,-ae,aq ta];refine aZ.cut (fun h2=>aa aG h1 h2/\h1.clock<=h2.clock) ⟨gt,Nat.le_succ _⟩ ?_;rintro h2⟨g2,F9⟩;have MV:=g1.trans g2;have O2:=O.aX ok MV;have R2:=O2.os.r b rb hb;refine aZ.call (V:=fun v hh=>hh=h2/\∃i:Nat,v=.int .i64 i/\rb.ts[i]?=some (u:Int)) (by simpa using xR R2.T.sl (by have:=w.two rb Wa;omega) hu) ?_;rintro _ h2⟨rfl,i,rfl,hi⟩;have fu:=(bK.mp hi).1;obtain⟨bT,csT,oT,sT,AM,hTb,hjT,akS,Uy,alE⟩:=R2.T.el hi;have κT:κ bT=5:=R2.kT bT (bC AM);have EG:=akS 0 1 (by decide);simp at EG;have CA:=g2.get g1.ok aa_;have aqv:=g2.get g1.ok ta;have aj0:=g2.get g1.ok aeW;have nF:¬F=bT:=fun e=>by rw[e] at κF;omega
 have nB:¬bB=bT:=fun e=>by rw[e] at κB;omega
 have rdP:∀h2,aa aG h h2->aV h2 bB (u*6) 1=some [ru.P.v]:=fun h2 g=>by have a:=O.A.aX ok g;obtain⟨Sf,TR,oB',sB',ir,_,_,_,Yc,_⟩:=a.el hru;rw[dZ] at ir;cases ir;have:=Yc 0 1 (by decide);simpa [-ae,AL] using this
 have rP:=rdP h2 MV;simp[-ae] at rP;have iF:=(O2.os.r u ru hru).P.len;simp[AM,vj,fu,hTb,EG,CA,alK,bj,nF,nB,aq aqv,xg,rP,iF,-ae];have gp:aa (· =bT) h2 (put h2 bT i csT [.int .i64 rs.length] oT):=aJ g2.ok hTb;have aT:=alE (rs.length:Int) 0 [.int .i64 rs.length] (by simp) rfl (put h2 bT i csT [.int .i64 rs.length] oT) ⟨_,by simp;rfl⟩;generalize put h2 bT i csT [.int .i64 rs.length] oT=h3 at*;have os3:=O2.os.amU g2.ok hb (gp.bH (fun x _ e=>e▸bC AM)) aT rfl;have A3:fS eW h3 B (rs.set b {rb with T:=rb.T,ts:=rb.ts.set i (rs.length:Int)}):=by
  refine xF (O2.A.grow g2.ok gp (fun x hx e=>by have:=O.kB x hx;rw[e] at this;omega)) (by simp) (fun m a c h1 h2=>?_);rw[eu] at h2;by_cases e1:b=m
  .subst e1;rw[aY rfl,aY ma] at h2;cases h2;rw[hb] at h1;cases h1;rfl
  .rw[bc e1] at h2;rw[h1] at h2;cases h2;rfl
 have O3:kW h3 n0 ag κ cap B (rs.set b {rb with T:=rb.T,ts:=rb.ts.set i (rs.length:Int)}):=⟨os3,A3,O.kB⟩;obtain⟨ru1,asD,asp⟩:∃r,(rs.set b {rb with T:=rb.T,ts:=rb.ts.set i (rs.length:Int)})[u]?=some r/\r.ps=ru.ps/\r.P=ru.P/\r.ls=ru.ls/\r.kind=ru.kind/\(u=b->r.ts=rb.ts.set i (rs.length:Int))/\(u≠b->r.ts=ru.ts):=by
  rw[eu];by_cases e:b=u
  .subst e;rw[aY rfl,aY ma];rw[hb] at hru;cases hru;exact⟨_,rfl,rfl,rfl,rfl,rfl,fun _=>rfl,fun h=>absurd rfl h⟩
  .rw[bc e];exact⟨ru,hru,rfl,rfl,rfl,rfl,fun h=>absurd h.symm e,fun _=>rfl⟩
 obtain⟨ep,eP,el,ek,et1,et2⟩:=asp;have qL:=gp.get g2.ok aj0 nF;have hpl':=(w.size ru (bU hru)).1;have ln12:=MV.next;have ln3:=gp.next;refine WX gp.ok O3 (by omega) (F:=F) (y:=u) (k:=k) (l:=pu.length) qL κF asD (fun q hq=>by rw[ep] at hq;exact w.CY u ru pu hru SE q hq) pc (by omega) (by rw[ep];omega) (by simp) (by simp) (by simp) (by simp[eP,iF,ep]) (by simp[ep,iF]) (by simp) ?_;intro e4 h4 qs K4 g4 O4 S4;have k0:ai e4 0=.pointer (some ⟨F,0,none⟩):=K4.at (t:=0) (by simp);have k2:ai e4 2=.int .i64 u:=K4.at (t:=2) (by simp);have zt:=g4.get gp.ok qL (by omega);have Qa:=zt;simp[aj] at Qa;have ln4:=g4.next;have lF:F<h.next:=oF;have abr:((rs.set b {rb with T:=rb.T,ts:=rb.ts.set i (rs.length:Int)}).set u {ru1 with ps:=qs}).length=rs.length:=by simp
 obtain⟨new,Nd⟩:∃new:XR,new=⟨cJ,cJ,⟨some ⟨h4.next,0,none⟩,1,1⟩,2,(false,0),[],[],[(u:Int)]⟩:=⟨_,rfl⟩;have ct:eW.enc new=[.slice none 0 0,.slice none 0 0,.int .i64 2,.bool false,.int .i64 0,.slice (some ⟨h4.next,0,none⟩) 1 1]:=by rw[Nd];rfl
 have g5:aa aG h4 (aD h4 [.int .i64 u] 0):=aH g4.ok _ _;have g6:aa aG h4 (aD (aD h4 [.int .i64 u] 0) (eW.enc new) 0):=g5.trans (aH g5.ok _ _);have n1:¬h4.next=h4.next+1:=by omega
 have hT6:(aD (aD h4 [.int .i64 u] 0) (eW.enc new) 0).tr.get h4.next=some (.aC [.int .i64 u] false 0 0):=by simp[n1]
 have OM:(aD (aD h4 [.int .i64 u] 0) (eW.enc new) 0).tr.get (h4.next+1)=some (.aC (eW.enc new) false 0 0):=by simp
 have hx6:(aD (aD h4 [.int .i64 u] 0) (eW.enc new) 0).next=h4.next+2:=rfl
 have hBfl:=O4.A.len;simp[k0,k2,Qa];rw[<-ct];generalize aD (aD h4 [.int .i64 u] 0) (eW.enc new) 0=h6 at*;have hw6:aL eW h6 (.slice (some ⟨h4.next+1,0,none⟩) 1 1) [new]:=jR OM;obtain⟨A',h7,ha,wA,gA,hbA,_⟩:=se (bytes:=96) (z:=[.slice none 0 0,.slice none 0 0,.int .i64 0,.bool false,.int .i64 0,.slice none 0 0]) g6.ok rfl (O4.A.aX g4.ok g6) hw6 (by rw[abr];simp;omega) (by decide);refine gH (by simpa using ha) ?_;clear ha;have nFB:¬aw B.v F:=fun e=>by have:=O.kB F e;omega
 have hF7:=gA.get g6.ok (g6.get g4.ok Qa) nFB;simp[k0,hF7];have gF:aa (· =F) h7 (put h7 F 3 [.string name,.int .i64 p,.int .i64 rg,.slice B.a B.l B.c] [.slice A'.a A'.l A'.c] 0):=aJ gA.ok hF7;have hF8:(put h7 F 3 [.string name,.int .i64 p,.int .i64 rg,.slice B.a B.l B.c] [.slice A'.a A'.l A'.c] 0).tr.get F=some (.aC (aj name p rg A') false 0 h7.clock):=by simp[aj,aR]
 generalize put h7 F 3 _ [.slice A'.a A'.l A'.c] 0=h8 at*;have l67:=gA.next;have l78:=gF.next;have κhi:∀x,h.next<=x->κ x=0:=fun x hx=>by
  rcases uM (κ x) with h1|h1
  .exact h1
  .have:=(O.os.new x (by omega)).2;omega
 have aaR:∀x,aw A'.v x->(aw B.v x/\κ x=2/\x<h.next)\/(x=h6.next/\x<h7.next):=fun x hx=>by
  rcases hbA x hx with h1|h1
  .exact .inl ⟨h1,O.kB x h1,O.A.bE ok h1⟩
  .exact .inr ⟨h1,wA.bE gA.ok hx⟩
 have G48:aa (fun x=>aw B.v x\/x=F) h4 h8:=(g6.aX.trans' gA (fun _ _ h=>h) (fun _ _ h=>.inl h)).trans' gF (fun _ _ h=>h) (fun _ _ h=>.inr h);have hT8:=gF.get gA.ok (gA.get g6.ok hT6 (fun e=>by have:=O.A.bE ok e;omega)) (show ¬h4.next=F by omega);have os8:=O4.os.push (κn:=fun x=>if x=h4.next then 5 else 0) (capn:=fun _=>0) (r:=new) g4.ok G48 (fun x hx=>by
  rcases hx with h|h
  .exact .inr (O.kB x h)
  .exact .inl (by rw[h];exact κF)) (by omega) (by
   rw[Nd];exact⟨fS.nil _ _,fS.nil _ _,⟨rfl,.inr ⟨h4.next,0,0,[],rfl,rfl,hT8,.inl rfl⟩⟩,fun b hb=>(eV rfl hb).elim,fun b hb=>(eV rfl hb).elim,fun b hb=>aY (iD rfl hb),fun q hq=>(by cases hq),fun q hq=>(by cases hq),fun h=>(by cases h)⟩) (fun b hb=>by
   dsimp only at hb;split at hb<;>omega) (fun b hb=>by
   split at hb
   .omega
   .omega)
 obtain⟨κ',hκ⟩:∃κ':Nat->Nat,∀x,κ' x=if aw A'.v x then 2 else xS h4.next κ (fun x=>if x=h4.next then 5 else 0) x:=⟨_,fun _=>rfl⟩
 have low:∀x,x<h.next->κ' x=κ x:=fun x hx=>by
  rw[hκ];split
  .rename_i e;rcases aaR x e with h1|h1
   .exact h1.2.1.symm
   .omega
  .exact aY (by omega)
 refine⟨?_,A',_,κ',_,i,⟨_,hF8⟩,low,⟨os8.exq (fun x hx=>?_) (fun x hx=>?_) (fun x hx=>?_),wA.grow gA.ok gF (fun x hx e=>?_),fun x hx=>by rw[hκ,aY hx]⟩,?_⟩
 .refine(((MV.aX.trans (gp.bH (fun x _ e=>.inl (by rw[e];omega)))).trans (g4.bH (fun x _ e=>.inl (by omega)))).trans (G48.bH (fun x _ e=>?_)));rcases e with e|e
  .exact .inl (by have:=O.kB x e;omega)
  .exact .inr e
 .rw[hκ];split
  .rename_i e;rcases aaR x e with h1|h1
   .unfold xS;rw[aY (by omega)];exact h1.2.1.symm
   .exfalso;unfold xS at hx;rw[bc (by omega)] at hx;dsimp only at hx;rw[bc (by omega)] at hx;exact hx rfl
  .rfl
 .rw[hκ] at hx;split at hx
  .cases hx
  .exact hx
 .rw[hκ] at hx;split at hx
  .rename_i e;rcases aaR x e with h1|h1
   .have:=(O.os.new x (by omega)).1;omega
   .omega
  .exact os8.new x hx
 .rcases aaR x hx with h1|h1
  .rw[e] at h1;omega
  .omega
 .refine⟨⟨rb,hb,rfl⟩,hi,by simp,fun m a c h1 h2=>?_,new,by rw[HA (by rw[abr];exact dH _),abr];simp,by rw[Nd],by rw[Nd],by rw[Nd],by rw[Nd]⟩;have AO:=(bK.mp h1).1;rw[FX (by rw[abr];exact AO),eu] at h2;by_cases e1:u=m
  .subst e1;rw[aY rfl,aY (by simpa using AO)] at h2;cases h2;rw[hru] at h1;cases h1;refine⟨el,by rw[ep] at S4;exact S4,ek,fun e=>et1 e,fun e=>et2 e⟩
  .rw[bc e1,eu] at h2;by_cases e2:b=m
   .subst e2;rw[aY rfl,aY ma] at h2;cases h2;rw[hb] at h1;cases h1;exact⟨rfl,jB.refl _,rfl,fun _=>rfl,fun h=>absurd rfl h⟩
   .rw[bc e2,h1] at h2;cases h2;exact⟨rfl,jB.refl _,rfl,fun h=>absurd h.symm e2,fun _=>rfl⟩
structure SpS(h0 h:ab)(name:ByteArray)(p rg:Int)(n0 ag:Nat)(κ0:Nat->Nat)(c_:List XR)(F:Nat)(B:SV)(κ cap:Nat->Nat)(rs:List XR):Prop where
 g:aa (fun x=>κ0 x≠0\/x=F) h0 h
 hF:∃s,h.tr.get F=some (.aC (aj name p rg B) false 0 s)
 low:∀x,x<h0.next->κ x=κ0 x
 κF:κ F=0
 O:kW h n0 ag κ cap B rs
 tf:TF0 rs
 two:Two rs
 lZ:∀φ,gO φ rs=gO φ c_
 seen:Seen c_->Seen rs
 size:(rs.map eT).sum=(c_.map eT).sum
theorem Two.idx(w:Two rs)(w0:TF0 rs){r:XR}(hr:r∈rs){u:Int}(hi:r.ts[i]?=some u)(hj:r.ts[j]?=some u):i=j:=by
 rcases w0.kind r hr with⟨_,h⟩|⟨_,t,h⟩|⟨h3,_⟩
 .rw[h] at hi;simp at hi
 .rw[h] at hi hj;have h1:=(bK.mp hi).1;have h2:=(bK.mp hj).1;simp at h1 h2;omega
 .obtain⟨t,v,h,ct⟩:=w r hr h3;rw[h] at hi hj;rcases i with _|_|i<;>rcases j with _|_|j<;>simp at hi hj<;>first|rfl|(exfalso;apply ct;rw[hi,hj])|(exfalso;apply ct;rw[hj,hi])
def SiI(h0:ab)(name:ByteArray)(p rg:Int)(n0 ag:Nat)(κ0:Nat->Nat)(c_:List XR)(F b m L:Nat)(T0:List Int)(C:SV)(e:Env)(mm:Nat)(e':Env)(h':ab):Prop:=
 ∃(j:Nat) (B:SV) (κ cap:Nat->Nat) (rs:List XR) (r:XR),mm=T0.length-j/\j<=T0.length/\ai e' 1=.pointer (some ⟨F,0,none⟩)/\ai e' 2=ai e 2/\ai e' 3=.int .i64 b/\ai e' 8=ai e 8/\ai e' 9=ai e 9/\ai e' 19=C.v/\ai e' 20=.int .i64 T0.length/\ai e' 21=.int .i64 j/\SpS h0 h' name p rg n0 ag κ0 c_ F B κ cap rs/\aL bg h' C.v T0/\(∀x,aw C.v x->κ x=0/\x≠F/\x<h'.next)/\(rs.length<=m+j/\L<=rs.length)/\rs[b]?=some r/\∀i,j<=i->r.ts[i]?=T0[i]?
def AhQ(rs:List XR)(h:ab)(v:Value)(h':ab):Prop:=aa aG h h'/\∃d ws,v=.slice (some ⟨d,0,none⟩) rs.length rs.length/\je bg h.next h' d ws (Edge.bp (bx rs))
theorem Iw(ok:bl h)(O:kW h n0 ag κ cap B rs)(T:TF0 rs):aE FF uS [.agg ⟨aj name p rg B⟩] h (AhQ rs h):=by obtain⟨bs,Ia,hV⟩:=O.view;refine(jk ok (name:=name) (p:=p) (r:=rg) Ia (hV.ends T.tok)).mono ?_;rintro v h'⟨g,d,ws,e,w⟩;rw[hV.dD] at w;exact⟨g,d,ws,by rw[e,hV.1],w⟩
theorem Pg(w:je bg n0 h d ws (Edge.bp (bx rs)))(hu:u<rs.length):∃(pu:List Int) (wu:SV),(Edge.bp (bx rs))[u]?=some pu/\wu.l=pu.length/\bJ bg n0 h wu.v pu/\aV h d u 1=some [wu.v]:=by
 have ku:=ck rs;obtain⟨pu,SE⟩:=ay (Edge.bp (bx rs)) u (by rw[Edge.cR,ku];exact hu);obtain⟨wu,hwu⟩:=ay ws u (by rw[w.len,Edge.cR,ku];exact hu);obtain⟨sd,hd⟩:=w.aC;have OX:=oh hd hwu;have A:=w.acc u wu pu hwu SE;have DE:wu.l=pu.length:=by obtain⟨a,cap,e,_⟩:=A.sl;simp at e;exact e.2.1
 exact⟨pu,wu,SE,DE,A,OX⟩
section
variable{h0 h':ab}{n0:Nat}{name:ByteArray}{p rg:Int}{ag:Nat}{κ0:Nat->Nat}{c_:List XR}{F b m L:Nat}{T0:List Int}{C B:SV}{κ cap:Nat->Nat}{rs:List XR}{r:XR}{j:Nat}{e e':Env}
theorem SpS.aX(w:SpS h0 h' name p rg n0 ag κ0 c_ F B κ cap rs){h2:ab}(g2:aa aG h' h2):SpS h0 h2 name p rg n0 ag κ0 c_ F B κ cap rs:=by obtain⟨s,hF⟩:=w.hF;exact⟨w.g.trans g2.aX,⟨s,g2.get w.g.ok hF⟩,w.low,w.κF,w.O.aX w.g.ok g2,w.tf,w.two,w.lZ,w.seen,w.size⟩
theorem Ta(aM:j<T0.length)(q1:ai e' 1=.pointer (some ⟨F,0,none⟩))(q2:ai e' 2=ai e 2)(q3:ai e' 3=.int .i64 b)(q8:ai e' 8=ai e 8)(q9:ai e' 9=ai e 9)(Zs:ai e' 19=C.v)(NY:ai e' 20=.int .i64 T0.length)(w:SpS h0 h' name p rg n0 ag κ0 c_ F B κ cap rs)(hC:aL bg h' C.v T0)(fC:∀x,aw C.v x->κ x=0/\x≠F/\x<h'.next)(hm:rs.length<=m+j/\L<=rs.length)(hr:rs[b]?=some r)(hTs:∀i,j<=i->r.ts[i]?=T0[i]?)(g2:aa aG h' h2)(k1:ai e2 1=ai e' 1)(k2:ai e2 2=ai e' 2)(k3:ai e2 3=ai e' 3)(k8:ai e2 8=ai e' 8)(k9:ai e2 9=ai e' 9)(k19:ai e2 19=ai e' 19)(k20:ai e2 20=ai e' 20)(k21:ai e2 21=.int .i64 ((j+1:Nat):Int)):∃Jm,Jm<T0.length-j/\SiI h0 name p rg n0 ag κ0 c_ F b m L T0 C e Jm e2 h2:=by
 refine⟨T0.length-(j+1),by omega,j+1,B,κ,cap,rs,r,rfl,aM,by rw[k1,q1],by rw[k2,q2],by rw[k3,q3],by rw[k8,q8],by rw[k9,q9],by rw[k19,Zs],by rw[k20,NY],k21,w.aX g2,hC.aX w.g.ok g2,fun x hx=>?_,⟨by omega,hm.2⟩,hr,fun i hi=>hTs i (by omega)⟩;obtain⟨a1,a2,a3⟩:=fC x hx;exact⟨a1,a2,En a3 g2.next⟩
theorem acG(aM:j<T0.length)(q1:ai e' 1=.pointer (some ⟨F,0,none⟩))(q2:ai e' 2=ai e 2)(q3:ai e' 3=.int .i64 b)(q8:ai e' 8=ai e 8)(q9:ai e' 9=ai e 9)(Zs:ai e' 19=C.v)(NY:ai e' 20=.int .i64 T0.length)(w:SpS h0 h' name p rg n0 ag κ0 c_ F B κ cap rs)(hC:aL bg h' C.v T0)(fC:∀x,aw C.v x->κ x=0/\x≠F/\x<h'.next)(hm:rs.length<=m+j/\L<=rs.length)(hm2:m+2<=72)(DA:j<2)(hr:rs[b]?=some r)(hTs:∀i,j<=i->r.ts[i]?=T0[i]?)(Ni:r.ts[j]?=some (u:Int)){v:Value}(H:aeb name p rg n0 ag κ rs b u r.ts F h' v h2)(k1:ai e2 1=ai e' 1)(k2:ai e2 2=ai e' 2)(k3:ai e2 3=ai e' 3)(k8:ai e2 8=ai e' 8)(k9:ai e2 9=ai e' 9)(k19:ai e2 19=ai e' 19)(k20:ai e2 20=ai e' 20)(k21:ai e2 21=.int .i64 ((j+1:Nat):Int)):∃Jm,Jm<T0.length-j/\SiI h0 name p rg n0 ag κ0 c_ F b m L T0 C e Jm e2 h2:=by
 obtain⟨g3,B3,rs3,κ3,Pz,i,⟨s3,qL⟩,low3,O3,BR⟩:=H;have vz:i=j:=w.two.idx w.tf (bU hr) BR.hi Ni;subst vz;obtain⟨r3,hr3⟩:=BR.at2 hr;obtain⟨_,_,_,Sm,_⟩:=BR.at_ b r r3 hr hr3;have Sm:=Sm rfl;have ln:=w.g.next;have ln3:=g3.next;obtain⟨s,hF⟩:=w.hF;have lF:=w.g.ok.wf _ _ hF;refine⟨T0.length-(i+1),by omega,i+1,B3,κ3,Pz,rs3,r3,rfl,aM,by rw[k1,q1],by rw[k2,q2],by rw[k3,q3],by rw[k8,q8],by rw[k9,q9],by rw[k19,Zs],by rw[k20,NY],k21,⟨w.g.trans' g3 (fun _ _ h=>h) (fun x hx e=>?_),⟨s3,qL⟩,fun x hx=>by rw[low3 x (by omega),w.low x hx],by rw[low3 F (by omega)];exact w.κF,O3,BR.tf w.tf (by omega),BR.two w.two w.tf,fun φ=>by rw[BR.lZ φ,w.lZ φ],fun S=>BR.seen w.tf (w.seen S),by rw[BR.size,w.size]⟩,hC.grow w.g.ok g3 (fun x hx e=>?_),fun x hx=>?_,⟨by rw[BR.len];omega,by rw[BR.len];omega⟩,hr3,fun k hk=>?_⟩
 .rcases e with e|e
  .rw[w.low x hx] at e;exact .inl e
  .exact .inr e
 .obtain⟨a1,a2,_⟩:=fC x hx;rcases e with e|e
  .exact e a1
  .exact a2 e
 .obtain⟨a1,a2,a3⟩:=fC x hx;exact⟨by rw[low3 x (by omega)];exact a1,a2,by omega⟩
 .rw[Sm,eu,bc (by omega)];exact hTs k (by omega)
end
theorem Oj{h0 h:ab}(qk:n0<=h0.next){T0:List Int}{C B:SV}{r:XR}(w:SpS h0 h name p rg n0 ag κ0 c_ F B κ cap rs)(hC:aL bg h C.v T0)(fC:∀x,aw C.v x->κ x=0/\x≠F/\x<h.next)(hm:rs.length<=m){L:Nat}(hL:L<=rs.length)(hm2:m+2<=72)(hr:rs[b]?=some r)(hT:r.ts=T0)(f1:ai e 1=.pointer (some ⟨F,0,none⟩))(f3:ai e 3=.int .i64 b)(f19:ai e 19=C.v)(f20:ai e 20=.int .i64 T0.length)(f21:ai e 21=.int .i64 0)(K:∀e' h' B κ cap rs,ai e' 1=.pointer (some ⟨F,0,none⟩)->ai e' 2=ai e 2->ai e' 8=ai e 8->ai e' 9=ai e 9->SpS h0 h' name p rg n0 ag κ0 c_ F B κ cap rs->rs.length<=m+2->L<=rs.length->QQ (.exit 2) e' h'):az FF (.loop nH) e h QQ:=by
 have hCl:C.l=T0.length:=by obtain⟨a,cap,e,_⟩:=hC;simp at e;exact e.2.1
 have XH:T0.length<=2:=by rw[<-hT];exact w.tf.two r (bU hr)
 refine az.loop (SiI h0 name p rg n0 ag κ0 c_ F b m L T0 C e) ?_ (n:=T0.length) ⟨0,B,κ,cap,rs,r,rfl,by omega,f1,rfl,f3,rfl,rfl,f19,f20,f21,w,hC,fC,⟨hm,hL⟩,hr,fun i _=>by rw[hT]⟩;rintro mm e' h'⟨j,B,κ,cap,rs,r,rfl,hj,q1,q2,q3,q8,q9,Zs,NY,q21,w,hC,fC,⟨hm,hL⟩,hr,hTs⟩;have ok:=w.g.ok;have ma:=(bK.mp hr).1;unfold nH;by_cases aM:j<T0.length
 .have wj:=wrap_i64 ((j:Int)+1) (by omega) (by omega);obtain⟨t,ht⟩:=ay T0 j aM;have Ni:r.ts[j]?=some t:=by rw[hTs j (dH _),ht]
  have uj:=w.tf.to r (bU hr) t (bU Ni);obtain⟨u,rfl⟩:∃u:Nat,t=u:=⟨t.toNat,by omega⟩;have xg:u<rs.length:=by omega
  obtain⟨bW,QV,PA,Dv,_,_,af_⟩:=hC.read ht;have rC:=af_ 0 1 (by decide);simp[-ae] at rC Dv;have aeE:=Zs;simp at Zs;rw[Dv.1,hCl] at Zs;obtain⟨s,hF⟩:=w.hF;have dX:=hF;simp[aj] at dX;have cV:=w.O.A.len;obtain⟨bB,cs,oB,sB,dZ,Ak,Ur,dV,cS,jh⟩:=w.O.A.el hr;have rd5:=cS 5 1 (by decide);simp[-ae] at rd5;rw[dZ,cV] at dX;have R:=w.O.os.r b r hr;have vj:=R.T.len;by_cases h1:(1:Int)<(r.ts.length:Int)
  .simp[q1,q3,Zs,NY,q21,aM,rC,dX,ma,rd5,vj,h1,-ae,aq dX];refine aF.call (V:=AhQ rs h') (by simpa [aj,dZ,cV] using Iw (name:=name) (p:=p) (rg:=rg) ok w.O w.tf) ?_;rintro _ h2⟨g2,d,ws,rfl,w1⟩;obtain⟨pu,wu,SE,DE,_,OX⟩:=Pg w1 xg;simp[-ae] at OX;by_cases h2p:(1:Int)<(pu.length:Int)
   .simp[q1,q3,xg,OX,DE,h2p,-ae];refine aF.call (V:=aeb name p rg n0 ag κ rs b u r.ts F h2) (by simpa [q1] using JV g2.ok (w.O.aX ok g2) (by have:=w.g.next;have:=g2.next;omega) (g2.get ok hF) w.κF w.tf (by omega) hr (bU Ni)) ?_;rintro _ h3 H;simp[q21,wj];exact acG aM q1 q2 q3 q8 q9 aeE NY (w.aX g2) (hC.aX ok g2) (fun x hx=>by obtain⟨a1,a2,a3⟩:=fC x hx;exact⟨a1,a2,En a3 g2.next⟩) ⟨hm,hL⟩ hm2 (by omega) hr hTs Ni H (by simp) (by simp) (by simp) (by simp) (by simp) (by simp) (by simp) (by simp)
   .simp[q1,q3,xg,OX,DE,h2p,q21,wj,-ae];exact Ta aM q1 q2 q3 q8 q9 aeE NY w hC fC ⟨hm,hL⟩ hr hTs g2 (by simp) (by simp) (by simp) (by simp) (by simp) (by simp) (by simp) (by simp)
  .simp[q1,q3,Zs,NY,q21,aM,rC,dX,ma,rd5,vj,h1,wj,-ae,aq dX];exact Ta aM q1 q2 q3 q8 q9 aeE NY w hC fC ⟨hm,hL⟩ hr hTs (.refl ok) (by simp) (by simp) (by simp) (by simp) (by simp) (by simp) (by simp) (by simp)
 .have:j=T0.length:=by omega
  subst this;simp[NY,q21];exact K _ _ B κ cap rs (by simp[q1]) (by simp[q2]) (by simp[q8]) (by simp[q9]) w (by omega) hL
def SoI(h0:ab)(name:ByteArray)(p rg:Int)(n0 ag:Nat)(κ0:Nat->Nat)(c_:List XR)(F:Nat)(R:Value)(mm:Nat)(e':Env)(h':ab):Prop:=
 ∃(b:Nat) (B:SV) (κ cap:Nat->Nat) (rs:List XR),mm=c_.length-b/\b<=c_.length/\ai e' 1=.pointer (some ⟨F,0,none⟩)/\ai e' 2=R/\ai e' 8=.int .i64 c_.length/\ai e' 9=.int .i64 b/\SpS h0 h' name p rg n0 ag κ0 c_ F B κ cap rs/\rs.length<=c_.length+2*b/\c_.length<=rs.length
def WQ(name:ByteArray)(p rg:Int)(n0 ag:Nat)(κ0:Nat->Nat)(c_:List XR)(h:ab)(v:Value)(h':ab):Prop:=
 aa (fun x=>κ0 x≠0) h h'/\∃(B':SV) (bD:List XR) (κ cap:Nat->Nat),v=.agg ⟨aj name p rg B'⟩/\(∀x,x<h.next->κ x=κ0 x)/\kW h' n0 ag κ cap B' bD/\TF0 bD/\Two bD/\(∀φ,gO φ bD=gO φ c_)/\(Seen c_->Seen bD)/\(bD.map eT).sum=(c_.map eT).sum
theorem LD(ok:bl h){name:ByteArray}{p rg:Int}(qk:n0<=h.next)(O:kW h n0 ag κ0 sH B rs)(T:TF0 rs)(T2:Two rs)(h24:rs.length<=24):aE FF wS [.agg ⟨aj name p rg B⟩] h (WQ name p rg n0 ag κ0 rs h):=by
 have κnew:∀x,h.next<=x->κ0 x=0:=fun x hx=>by
  rcases uM (κ0 x) with h1|h1
  .exact h1
  .have:=(O.os.new x (by omega)).2;omega
 have cV:=O.A.len;refine aE.of Ed ?_;unfold wF;have n1:¬h.next=h.next+1:=by omega
 simp[aj,n1,cV];refine az.cut (fun h1=>aa aG h h1/\(∃s,h1.tr.get h.next=some (.aC (aj name p rg B) false 0 s))/\∃s,h1.tr.get (h.next+1)=some (.aC [.string ⟨⟨[]⟩⟩,.int .i64 0,.int .i64 0,.slice none 0 0] false 0 s)) ?_ ?_
 .exact⟨((aa.refl ok).new _ _).new _ _,⟨0,by simp[n1,aj,cV]⟩,0,by simp⟩
 rintro h1⟨g1,ta,sR,yV⟩;have lR:=g1.ok.wf _ _ yV;have gg:∀ {h2:ab},aa (fun x=>κ0 x≠0\/x=h.next) h1 h2->aa (fun x=>κ0 x≠0) h h2:=fun g=>g1.trans' g (fun _ _ h=>h.elim) (fun x hx e=>e.elim (fun e=>e) (fun e=>by omega));refine az.loop (SoI h1 name p rg n0 ag κ0 rs h.next (.pointer (some ⟨h.next+1,0,none⟩))) ?_ (n:=rs.length) ⟨0,B,κ0,sH,rs,rfl,by omega,by simp,by simp,by simp,by simp,⟨.refl g1.ok,ta,fun _ _=>rfl,κnew _ (dH _),O.aX ok g1,T,T2,fun _=>rfl,fun S=>S,rfl⟩,by omega,dH _⟩;rintro mm e' h'⟨b,B2,κ,cap,HG,rfl,hb,q1,q2,q8,q9,w,hm,hm0⟩;have cw:=w.g.ok;obtain⟨s,hF⟩:=w.hF;unfold uC;by_cases ma:b<rs.length
 .have wb:=wrap_i64 ((b:Int)+1) (by omega) (by omega);obtain⟨r,hr⟩:=ay HG b;have dX:=hF;simp[aj] at dX;have aqn:=w.O.A.len;obtain⟨bB,cs,oB,sB,dZ,Ak,Ur,dV,cS,jh⟩:=w.O.A.el hr;have rd5:=cS 5 1 (by decide);simp[-ae] at rd5;rw[dZ,aqn] at dX;have cC:b<HG.length:=by omega
  simp[q1,q8,q9,ma,dX,cC,rd5,-ae,aq dX];have R:=w.O.os.r b r hr;have hTt:=w.tf.two r (bU hr);refine aF.call (V:=qn bg h' r.ts) (by simpa using iV (v:=r.T) bg (bytes:=8) jo rfl (by decide) cw R.T.sl (by omega)) ?_;rintro _ h2⟨g2,C,rfl,hC,fC,_⟩;have hCl:=hC.len;have w2:SpS h1 h2 name p rg n0 ag κ0 rs h.next B2 κ cap HG:=⟨w.g.trans g2.aX,⟨s,g2.get cw hF⟩,w.low,w.κF,w.O.aX cw g2,w.tf,w.two,w.lZ,w.seen,w.size⟩;have lF:=cw.wf _ _ hF;simp;refine Oj (m:=rs.length+2*b) (T0:=r.ts) (C:=C) (b:=b) (by have:=g1.next;omega) w2 hC.sl (fun x hx=>?_) hm (L:=HG.length) (dH _) (by omega) hr rfl (by simp[q1]) (by simp) (by simp) (by simp[hCl]) (by simp) ?_
  .have h3:=fC x hx;refine⟨?_,by omega,hC.bE g2.ok hx⟩;rcases uM (κ x) with h1|h1
   .exact h1
   .have:=(w.O.os.new x (by omega)).2;omega
  .intro e3 h3 B3 κ3 Pz rs3 k1 k2 k8 k9 w3 hm3 vk;have k9':ai e3 9=.int .i64 b:=by rw[k9];simp[q9]
   simp[k9',wb];exact⟨rs.length-(b+1),by omega,b+1,B3,κ3,Pz,rs3,rfl,ma,by simp[k1],by simp[k2,q2],by simp[k8,q8],by simp,w3,by omega,by omega⟩
 .have:b=rs.length:=by omega
  subst this;have dX:=hF;simp[aj] at dX;have Du:=w.g.get g1.ok yV (fun e=>e.elim (fun e=>e (κnew _ (by omega))) (fun e=>by omega));have nR:¬h.next=h.next+1:=n1;simp[q1,q2,q8,q9,dX,Du];have gw:=(aa.refl w.g.ok).put (S:=(· =h.next+1)) (off:=0) (vs:=[Value.string name,Value.int .i64 p,Value.int .i64 rg,Value.slice B2.a B2.l B2.c]) ⟨_,Du⟩ (.inr rfl);generalize put h' _ _ _ _ _=h6 at gw⊢;have l1:=g1.next;have κR:κ (h.next+1)=0:=by rw[w.low _ (by omega)];exact κnew _ (by omega)
  exact⟨(gg w.g).trans' gw (fun _ _ e=>e) (fun x hx e=>by omega),B2,HG,κ,cap,by simp[aj],fun x hx=>w.low x (by omega),w.O.grow w.g.ok gw (fun x e=>by rw[e];exact κR),w.tf,w.two,w.lZ,w.seen,w.size⟩
def BW(T3:Nat):Value:=.func (.func BQ) #[] #[.pointer (some ⟨T3,0,none⟩)]
section
variable{n0 ag:Nat}{κ cap:Nat->Nat}{B:SV}{rs:List XR}{T3:Nat}{OF:SV}{fs:List Int}
structure NW(h:ab)(ag T3:Nat)(OF:SV)(fs:List Int):Prop where
 hT:∃s,h.tr.get T3=some (.aC [OF.v] false 0 s)
 A:fS bg h OF fs
 fl:fs.length=ag
 rg:∀r∈fs,0<=r/\r<(ag:Int)
structure FR(h:ab)(n0 ag:Nat)(κ cap:Nat->Nat)(B:SV)(rs:List XR)(T3:Nat)(OF:SV)(fs:List Int):Prop where
 O:kW h n0 ag κ cap B rs
 W:NW h ag T3 OF fs
 κT:κ T3=0
 κO:∀b,aw OF.v b->κ b=0
theorem NW.grow{S:Nat->Prop}{h h2:ab}(k:NW h ag T3 OF fs)(ok:bl h)(g:aa S h h2)(n1:¬S T3)(n2:∀b,aw OF.v b->¬S b):NW h2 ag T3 OF fs:=by obtain⟨s,hT⟩:=k.hT;exact⟨⟨s,g.get ok hT n1⟩,k.A.grow ok g n2,k.fl,k.rg⟩
theorem NW.aX(k:NW h ag T3 OF fs)(ok:bl h)(g:aa aG h h2):NW h2 ag T3 OF fs:=k.grow ok g (fun h=>h) (fun _ _ h=>h)
theorem FR.aX{h h2:ab}(k:FR h n0 ag κ cap B rs T3 OF fs)(ok:bl h)(g2:aa aG h h2):FR h2 n0 ag κ cap B rs T3 OF fs:=⟨k.O.aX ok g2,k.W.aX ok g2,k.κT,k.κO⟩
theorem FR.with{bD:List XR}{T:Nat->Prop}(k:FR h n0 ag κ cap B rs T3 OF fs)(ok:bl h)(g:aa T h h2)(hT:∀b,T b->κ b≠0)(O:kW h2 n0 ag κ cap B bD):FR h2 n0 ag κ cap B bD T3 OF fs:=
 ⟨O,k.W.grow ok g (fun e=>hT _ e k.κT) (fun b hb e=>hT b e (k.κO b hb)),k.κT,k.κO⟩
theorem FR.CZ{h h':ab}(k:FR h n0 ag κ cap B rs T3 OF fs)(ok:bl h){b:Nat}(hk:κ b=1)(g:aa (· =b) h h'){vs:List (Bool×Int)}{o:Nat}(hb:∃s,h'.tr.get b=some (.aC (bY.flat vs) false o s))(ho:o=0\/o=2)(hl:vs.length=cap b)(hv:∀v∈vs,h_ ag v):FR h' n0 ag κ cap B rs T3 OF fs:=
 k.with ok g (fun x e=>by rw[e];omega) (k.O.CZ ok hk g hb ho hl hv)
theorem NW.at{h:ab}(k:NW h ag T3 OF fs){r:Nat}(hr:r<ag):∃bO x,OF.a=some ⟨bO,0,none⟩/\OF.l=ag/\aV h bO r 1=some [.int .i64 x]/\0<=x/\x<(ag:Int)/\fs[r]?=some x:=by obtain⟨x,hx⟩:=ay fs r (by rw[k.fl];exact hr);obtain⟨b,cs,o,s,ha,hb,_,dV,cS,_⟩:=k.A.el hx;have:=cS 0 1 (by decide);simp[-ae] at this;have Gf:=k.rg x (bU hx);exact⟨b,x,ha,by rw[k.A.len,k.fl],this,Gf.1,Gf.2,hx⟩
def NwQ(ag:Nat)(v:Bool×Int)(h:ab)(r:Value)(h':ab):Prop:=aa aG h h'/\∃u:Bool×Int,r=.agg ⟨[.bool u.1,.int .i64 u.2]⟩/\Tp ag u v
theorem vt(ok:bl h)(k:NW h ag T3 OF fs)(hv:h_ ag v):cP FF (BW T3) [.agg ⟨[.bool v.1,.int .i64 v.2]⟩] h (NwQ ag v h):=by
 refine cP.func ?_;refine aE.of J7 ?_;unfold Bi;obtain⟨rg,n⟩:=v;obtain⟨s,hT⟩:=k.hT;have oT:=ok.bE hT;have n1:¬h.next=h.next+1:=by omega
 have n2:¬h.next+1=h.next:=by omega
 cases rg with
 |false=>
  simp[n1,n2];exact⟨((((aa.refl ok).new _ _).new _ _).put ⟨0,by simp⟩ (.inl (by omega))),(false,n),rfl,rfl,(fun h=>by cases h),fun _=>rfl⟩
 |true=>
  obtain⟨h0n,hnr⟩:=hv rfl;dsimp only at h0n hnr;obtain⟨n,rfl⟩:∃n':Nat,n=n':=⟨n.toNat,by omega⟩;obtain⟨bO,x,ha,hl,rd,x0,x1,_⟩:=k.at (r:=n) (by omega);have XH:=hT;simp at XH;rw[ha,hl] at XH;have oO:Old bO h:=k.A.bE ok (bC ha);have hn:n<ag:=by omega
  simp[n1,n2,XH,oT,hn,rd,oO,aN,jx,bj,au,aq XH,-ae];refine⟨?_,(true,x),rfl,rfl,(fun _=>⟨x0,x1⟩),(fun h=>by cases h)⟩;exact((((aa.refl ok).new _ _).new _ _).put ⟨0,by simp[n1]⟩ (.inl (by omega))).put ⟨0,by simp[n2]⟩ (.inl (by omega))
def NwL:List Nat:=[9,10,52,53,54,55,56,57,58,59,60,61,62,63,64]
def NwI(h:ab)(n0 ag:Nat)(κ cap:Nat->Nat)(B:SV)(rs:List XR)(T3:Nat)(OF:SV)(fs:List Int)(A:SV)(X:Nat)(xc:List Value)(sX:Nat)(e:Env)(m:Nat)(e':Env)(h':ab):Prop:=
 ∃j:Nat,m=A.l-j/\j<=A.l/\ax NwL e e'/\ai e' 52=.int .i64 j/\aa (fun z=>κ z≠0) h h'/\FR h' n0 ag κ cap B rs T3 OF fs/\h'.tr.get X=some (.aC xc false 0 sX)
theorem ab6(ok:bl h)(k:FR h n0 ag κ cap B rs T3 OF fs)(hA:VA κ cap A)(hl:A.l<=1048576)(hX:h.tr.get X=some (.aC xc false 0 sX))(κX:κ X=0)(Ev:(xc.drop 7).take 1=[A.v])(f4:ai e 4=BW T3)(fX:ai e 8=.pointer (some ⟨X,0,none⟩))(fA:ai e 50=A.v)(fl:ai e 51=.int .i64 A.l)(fj:ai e 52=.int .i64 0)(C:∀e' h',ax NwL e e'->aa (fun z=>κ z≠0) h h'->FR h' n0 ag κ cap B rs T3 OF fs->h'.tr.get X=some (.aC xc false 0 sX)->QQ (.exit 4) e' h'):az FF (.loop wq) e h QQ:=by
 refine az.loop (NwI h n0 ag κ cap B rs T3 OF fs A X xc sX e) ?_ (n:=A.l) ⟨0,rfl,by omega,ax.refl _ _,fj,.refl ok,k,hX⟩;rintro m e' h'⟨j,rfl,hj,K,qj,g,k',nt⟩;have cw:=g.ok;have q4:=K.at f4;have qX:=K.at fX;have qA:=K.at fA;have ql:=K.at fl;have u6:7+1<=xc.length:=by have:=congrArg List.length Ev;simp at this;omega
 unfold wq;by_cases aM:j<A.l
 .have wj:=wrap_i64 ((j:Int)+1) (by omega) (by omega);obtain⟨b,vs,o,s,v,ha,Ut,hc,hb,ho,Jc,vB,hx,hv,rd⟩:=hA.val k'.O.os.V aM;simp at qA;rw[ha] at qA;have Gh:(xc.drop 7).take 1=[.slice (some ⟨b,0,none⟩) A.l A.c]:=by rw[Ev];simp[ha]
  have rX:aV h' X 7 1=some [.slice (some ⟨b,0,none⟩) A.l A.c]:=by rw[cx nt u6,Gh]
  have oX:=cw.bE nt;have zw:=cw.st _ _ _ _ _ nt;have lX:=oX.lt;have nXn:¬X=h'.next:=by omega
  have lb:=cw.wf _ _ hb;simp[q4,qX,qA,ql,qj,aM,rd,rX,oX,nXn,-ae,au,bj,aN,aB];refine aZ.cut (fun h2=>aa aG h' h2) ?_ ?_
  .exact((aa.refl cw).var _ _).tick
  intro h2 g2;have k2:=k'.aX cw g2;have ef:=g2.get cw nt;refine aZ.cu (V:=NwQ ag v h2) (by simpa [q4] using vt g2.ok k2.W hv) ?_;rintro _ h3⟨g3,u,rfl,_,hu,_⟩;have k3:=k2.aX g2.ok g3;have iO:=g3.get g2.ok ef;have vk:=g3.get g2.ok (g2.get cw hb (fun h=>h));have hjv:j<vs.length:=(bK.mp hx).1;have hf:j*2+2<=(bY.flat vs).length:=by rw[bY.bh,eB];omega
  have HE:j*2+2<=vs.length*2:=by omega
  have Ar:sX<=h'.clock+1:=by omega
  simp[qX,iO,Ar,aM,vk,HE,qj,wj];have g4:=aJ (off:=j*2) (vs:=[Value.bool u.1,Value.int .i64 u.2]) g3.ok vk;have e4:=bY.dS vs j u hjv;simp only[eB,xG] at e4;have HC:∃s,(put h3 b (j*2) (bY.flat vs) [Value.bool u.1,Value.int .i64 u.2] o).tr.get b=some (.aC (bY.flat (vs.set j u)) false o s):=⟨_,by rw[aA,e4]⟩;generalize put h3 b (j*2) (bY.flat vs) [Value.bool u.1,Value.int .i64 u.2] o=h4 at*;have k4:=k3.CZ g3.ok Ut g4 HC ho (by simp[Jc]) (fun w hw=>by
   rcases Em hw with h|h
   .exact vB w h
   .rw[h];exact hu)
  have nXb:¬X=b:=fun e=>by rw[e] at κX;omega
  refine⟨A.l-(j+1),by omega,j+1,rfl,aM,?_,by simp,?_,k4,g4.get g3.ok iO nXb⟩
  .repeat (refine ax.set ?_)
   exact K
  .exact((g.trans g2.aX).trans g3.aX).trans (g4.bH (fun x _ e=>by rw[e];omega))
 .have:j=A.l:=by omega
  subst this;simp[ql,qj];exact C _ _ (ax.set K) g k' nt
end
section
variable{n0 ag:Nat}{κ cap:Nat->Nat}{B:SV}{rs:List XR}{T3:Nat}{OF:SV}{fs:List Int}
theorem FR.box(k:FR h n0 ag κ cap B rs T3 OF fs)(ok:bl h)(g:aa (· =Y) h h')(κY:κ Y=0)(nT:T3≠Y)(nO:¬aw OF.v Y):FR h' n0 ag κ cap B rs T3 OF fs:=by exact⟨k.O.grow ok g (fun b hb=>by rw[hb];exact κY),k.W.grow ok g nT (fun b hb e=>nO (e▸hb)),k.κT,k.κO⟩
theorem FR.p7(k:FR h n0 ag κ cap B rs T3 OF fs)(ok:bl h)(hY:h.next<=Y):T3≠Y/\¬aw OF.v Y:=by obtain⟨s,hT⟩:=k.W.hT;have:=ok.wf _ _ hT;exact⟨by omega,fun e=>by have:=k.W.A.bE ok e;omega⟩
def NlD:List Nat:=[39,40,41,42,43,44,45,46,47,48]
theorem ab1(ok:bl h)(k:FR h n0 ag κ cap B rs T3 OF fs)(SG:h_ ag x.a)(Gg:h_ ag x.b)(hY:h.tr.get Y=some (.aC [.int .i64 x.op,.int .i64 x.dst,.bool x.a.1,.int .i64 x.a.2,.bool x.b.1,.int .i64 x.b.2,.int .i64 x.fn,.slice x.args.a x.args.l x.args.c] false 0 sY))(κY:κ Y=0)(nT:T3≠Y)(nO:¬aw OF.v Y)(f4:ai e 4=BW T3)(f8:ai e 8=.pointer (some ⟨Y,0,none⟩))(C:∀e' h' u w s,ax NlD e e'->aa (· =Y) h h'->FR h' n0 ag κ cap B rs T3 OF fs->Tp ag u x.a->Tp ag w x.b->h'.tr.get Y=some (.aC [.int .i64 x.op,.int .i64 x.dst,.bool u.1,.int .i64 u.2,.bool w.1,.int .i64 w.2,.int .i64 x.fn,.slice x.args.a x.args.l x.args.c] false 0 s)->QQ .normal e' h'):az FF QP e h QQ:=by
 have oY:=ok.bE hY;have zw:=ok.st _ _ _ _ _ hY;unfold QP;simp[f4,f8,hY,aq hY,oY];have mN:=(aS ok).ok;have gt:aa aG h (tick h):=aS ok;generalize tick h=h1 at mN gt⊢;have k1:=k.aX ok gt;have hY1:=gt.get ok hY;refine aZ.cu (V:=NwQ ag x.a h1) (by simpa [f4] using vt mN k1.W SG) ?_;rintro _ h2⟨g2,u,rfl,u1,u2,u3⟩;have k2:=k1.aX mN g2;have uN:=g2.get mN hY1;simp[f8,uN,zw];refine aZ.cu (V:=NwQ ag x.b h2) (by simpa [f4] using vt g2.ok k2.W Gg) ?_;rintro _ h3⟨g3,w,rfl,v1,v2,v3⟩;have k3:=k2.aX g2.ok g3;have vT:=g3.get g2.ok uN;simp[f8,vT];have g4:=((aa.refl g3.ok).put (S:=(· =Y)) (off:=2) (vs:=[Value.bool u.1,Value.int .i64 u.2]) ⟨_,vT⟩ (.inr rfl)).put (b:=Y) (off:=4) (cs:=[.int .i64 x.op,.int .i64 x.dst,.bool u.1,.int .i64 u.2,.bool x.b.1,.int .i64 x.b.2,.int .i64 x.fn,.slice x.args.a x.args.l x.args.c]) (o:=0) (vs:=[Value.bool w.1,Value.int .i64 w.2]) ⟨h3.clock,by simp[aR]⟩ (.inr rfl);refine C _ _ u w (h3.clock+1) ?_ ?_ (k3.box g3.ok g4 κY nT nO) ⟨u1,u2,u3⟩ ⟨v1,v2,v3⟩ ?_
 .repeat (refine ax.set ?_)
  exact ax.refl _ _
 .exact((gt.trans g2).trans g3).aX.trans g4
 .rw[aA];rfl
theorem SO(ok:bl h)(k:FR h n0 ag κ cap B rs T3 OF fs){r:XR}(y4:rs[i]?=some r){x x':XI}(hx:r.ls[j]?=some x)(hd:x'.dst<ag)(ha:h_ ag x'.a)(hb:h_ ag x'.b)(hv:VA κ cap x'.args)(hX:h.tr.get X=some (.aC xc false 0 sX))(κX:κ X=0)(Ev:(xc.drop 1).take 1=[r.L.v])(hY:h.tr.get Y=some (.aC (kh.enc x') false 0 sY))(f6:ai e 6=.pointer (some ⟨X,0,none⟩))(f7:ai e 7=.int .i64 j)(f8:ai e 8=.pointer (some ⟨Y,0,none⟩))(C:∀e' h',ax [74,75,76,77,78] e e'->aa (fun z=>κ z≠0) h h'->FR h' n0 ag κ cap B (rs.set i {r with ls:=r.ls.set j x'}) T3 OF fs->h'.tr.get X=some (.aC xc false 0 sX)->QQ .normal e' h'):az FF QO e h QQ:=by
 have R:=k.O.os.r i r y4;obtain⟨bL,cs,o,s,haL,hbL,_,dV,_,jh⟩:=R.L.el hx;have aM:=(bK.mp hx).1;have tc:=R.L.len;have u6:1+1<=xc.length:=by have:=congrArg List.length Ev;simp at this;omega
 have Gh:(xc.drop 1).take 1=[.slice (some ⟨bL,0,none⟩) r.ls.length r.L.c]:=by rw[Ev];simp[haL,tc]
 have rX:aV h X 1 1=some [.slice (some ⟨bL,0,none⟩) r.ls.length r.L.c]:=by rw[cx hX u6,Gh]
 have hf:=dV 0 8 (by decide);simp at hf;have uN:=hY;simp only[MN] at uN;simp at uN;have κL:κ bL=4:=R.kL bL (bC haL);unfold QO;simp[f6,f7,f8,rX,uN,aq uN,aM,hbL,hf,-ae];have g4:=aJ (off:=j*8) (vs:=[Value.int .i64 x'.op,.int .i64 x'.dst,.bool x'.a.1,.int .i64 x'.a.2,.bool x'.b.1,.int .i64 x'.b.2,.int .i64 x'.fn,.slice x'.args.a x'.args.l x'.args.c]) ok hbL;have hL4:=jh x' 0 [Value.int .i64 x'.op,.int .i64 x'.dst,.bool x'.a.1,.int .i64 x'.a.2,.bool x'.b.1,.int .i64 x'.b.2,.int .i64 x'.fn,.slice x'.args.a x'.args.l x'.args.c] (by simp) rfl (put h bL (j*8) cs [Value.int .i64 x'.op,.int .i64 x'.dst,.bool x'.a.1,.int .i64 x'.a.2,.bool x'.b.1,.int .i64 x'.b.2,.int .i64 x'.fn,.slice x'.args.a x'.args.l x'.args.c] o) ⟨h.clock,by simp⟩;have fu:=(bK.mp y4).1;have O4:kW (put h bL (j*8) cs [Value.int .i64 x'.op,.int .i64 x'.dst,.bool x'.a.1,.int .i64 x'.a.2,.bool x'.b.1,.int .i64 x'.b.2,.int .i64 x'.fn,.slice x'.args.a x'.args.l x'.args.c] o) n0 ag κ cap B (rs.set i {r with ls:=r.ls.set j x'}):=
  ⟨k.O.os.acF ok y4 (g4.bH (fun y _ e=>e▸bC haL)) hL4 rfl (fun z hz=>by
   rcases Em hz with h|h
   .exact R.ls z h
   .rw[h];exact⟨hd,ha,hb,hv⟩),FK (k.O.A.grow ok g4 (fun x hx e=>by have:=k.O.kB x hx;rw[e] at this;omega)) y4 rfl,k.O.kB⟩
 have k4:=k.with ok g4 (fun x e=>by rw[e];omega) O4;refine C _ _ ?_ (g4.bH (fun z _ e=>by rw[e];omega)) k4 (g4.get ok hX (fun e=>by rw[e] at κX;omega))
 repeat (refine ax.set ?_)
 exact ax.refl _ _
def NlS:List Nat:=[7,8,9,10]++(List.range 46).map (· +34)
def NlJ(h:ab)(n0 ag:Nat)(κ cap:Nat->Nat)(B:SV)(rs:List XR)(T3:Nat)(OF:SV)(fs:List Int)(i:Nat)(r:XR)(X:Nat)(xc:List Value)(sX:Nat)(e:Env)(m:Nat)(e':Env)(h':ab):Prop:=
 ∃(j:Nat) (ys:List XI),m=r.ls.length-j/\j<=r.ls.length/\ax NlS e e'/\ai e' 34=.int .i64 j/\aa (fun z=>κ z≠0) h h'/\FR h' n0 ag κ cap B (rs.set i {r with ls:=ys}) T3 OF fs/\ys.length=r.ls.length/\(∀x∈ys,x.args.l<=1048576)/\(∀φ,jG φ ys=jG φ r.ls)/\h'.tr.get X=some (.aC xc false 0 sX)
theorem ab7(ok:bl h)(k:FR h n0 ag κ cap B rs T3 OF fs){r:XR}(hr:rs[i]?=some r)(hl:r.ls.length<=1048576)(al:∀x∈r.ls,x.args.l<=1048576)(hX:h.tr.get X=some (.aC xc false 0 sX))(κX:κ X=0)(Ev:(xc.drop 1).take 1=[r.L.v])(f4:ai e 4=BW T3)(f3:ai e 3=.pointer (some ⟨T3,0,none⟩))(f6:ai e 6=.pointer (some ⟨X,0,none⟩))(f32:ai e 32=r.L.v)(f33:ai e 33=.int .i64 r.ls.length)(f34:ai e 34=.int .i64 0)(C:∀e' h' ys,ys.length=r.ls.length->ax NlS e e'->aa (fun z=>κ z≠0) h h'->FR h' n0 ag κ cap B (rs.set i {r with ls:=ys}) T3 OF fs->(∀x∈ys,x.args.l<=1048576)->(∀φ,jG φ ys=jG φ r.ls)->h'.tr.get X=some (.aC xc false 0 sX)->QQ (.exit 2) e' h'):az FF (.loop wv) e h QQ:=by
 have fu:=(bK.mp hr).1;refine az.loop (NlJ h n0 ag κ cap B rs T3 OF fs i r X xc sX e) ?_ (n:=r.ls.length) ⟨0,r.ls,rfl,by omega,ax.refl _ _,f34,.refl ok,by rw[Hm hr];exact k,rfl,al,fun _=>rfl,hX⟩;rintro m e' h'⟨j,ys,rfl,hj,K,Q8,g,k',Je,vC,HF,nt⟩;have cw:=g.ok;have q3:=K.at f3;have q4:=K.at f4;have q6:=K.at f6;have Q7:=K.at f32;have q33:=K.at f33;have u6:2<=xc.length:=by have:=congrArg List.length Ev;simp at this;omega
 unfold wv;by_cases aM:j<r.ls.length
 .have wj:=wrap_i64 ((j:Int)+1) (by omega) (by omega);obtain⟨x,hx⟩:=ay ys j;have Gi:=bU hx;have y4:(rs.set i {r with ls:=ys})[i]?=some {r with ls:=ys} :=by rw[eu,aY rfl,aY fu]
  have R:=k'.O.os.r i _ y4;have RL:fS kh h' r.L ys:=R.L;obtain⟨bL,cs,o,s,ha,hb,_,dV,cS,_⟩:=RL.el hx;have rd:=cS 0 8 (by decide);simp[-ae] at rd;have tc:=RL.len;obtain⟨hd,SG,Gg,SH⟩:=R.ls x Gi;simp at Q7;rw[ha,tc,Je] at Q7;simp[Q7,q33,Q8,aM,rd,-ae,au];refine az.cut (fun h2=>aa aG h' h2/\∃s,h2.tr.get h'.next=some (.aC [.int .i64 x.op,.int .i64 x.dst,.bool x.a.1,.int .i64 x.a.2,.bool x.b.1,.int .i64 x.b.2,.int .i64 x.fn,.slice x.args.a x.args.l x.args.c] false 0 s)) ?_ ?_
  .exact⟨(aa.refl cw).var _ _,h'.clock,by simp[aR]⟩
  rintro h2⟨g2,s2,uN⟩;have k2:=k'.aX cw g2;have ef:=g2.get cw nt;have lX:=cw.wf _ _ nt;obtain⟨nT,nO⟩:=k'.p7 cw (dH _);have κY:κ h'.next=0:=by
   have hw:=k'.O.os.new h'.next;rcases uM (κ h'.next) with h|h
   .exact h
   .have:=(hw (by omega)).2;omega
  refine ab1 g2.ok k2 SG Gg uN κY nT nO (by simp[q4]) (by simp) ?_;intro e3 h3 u w s3 K3 g3 k3 hu hw vT;have iO:=g3.get g2.ok ef (by omega);have a3:=K3.at (t:=3) (by simp;exact q3);have a4:=K3.at (t:=4) (by simp;exact q4);have a6:=K3.at (t:=6) (by simp;exact q6);have a7:ai e3 7=.int .i64 j:=K3.at (t:=7) (by simp);have a8:ai e3 8=.pointer (some ⟨h'.next,0,none⟩):=K3.at (t:=8) (by simp);have a34:=K3.at (t:=34) (by simp;exact Q8);have KK3:ax NlS e e3:=by
   refine ax.trans ?_ (K3.bH)
   repeat (refine ax.set ?_)
   exact K
  simp[a8,vT];refine ab6 g3.ok k3 SH (vC x Gi) vT κY rfl (by simp[a4]) (by simp[a8]) (by simp) (by simp) (by simp) ?_;intro e4 h4 K4 g4 k4 Dw;have vS:=g4.get g3.ok iO (fun e=>e κX);have b3:=K4.at (t:=3) (by simp;exact a3);have b6:=K4.at (t:=6) (by simp;exact a6);have b7:=K4.at (t:=7) (by simp;exact a7);have b8:=K4.at (t:=8) (by simp;exact a8);have b34:=K4.at (t:=34) (by simp;exact a34);have KK4:ax NlS e e4:=by
   refine ax.trans ?_ (K4.bH)
   repeat (refine ax.set ?_)
   exact KK3
  have G4:aa (fun z=>κ z≠0) h h4:=((g.trans g2.aX).trans' g3 (fun _ _ h=>h) (fun z hz e=>by have:=g.next;omega)).trans g4;have as7:1+1<=xc.length:=u6;have κL:κ bL=4:=R.kL bL (bC ha)
  
  have fin:∀(e6:Env)(h6:ab)(d:Int),d<ag->ax NlS e e6->aa (fun z=>κ z≠0) h h6->FR h6 n0 ag κ cap B (rs.set i {r with ls:=ys.set j ⟨x.op,d,u,w,x.fn,x.args⟩}) T3 OF fs->h6.tr.get X=some (.aC xc false 0 sX)->∃m,m<r.ls.length-j/\NlJ h n0 ag κ cap B rs T3 OF fs i r X xc sX e m (Tr.set (Tr.set e6 79 (.int .i64 ((j:Int)+1))) 34 (.int .i64 ((j:Int)+1))) h6:=by
   intro e6 h6 d hdr K6 G6 k6 Ap;refine⟨r.ls.length-(j+1),by omega,j+1,ys.set j ⟨x.op,d,u,w,x.fn,x.args⟩,rfl,aM,ax.set (ax.set K6),by simp,G6,k6,by simp[Je],fun z hz=>?_,fun φ=>?_,Ap⟩
   .rcases Em hz with h|h
    .exact vC z h
    .rw[h];exact vC x Gi
   .rw[MH hx ?_]
    .exact HF φ
    .simp only[shX,B9 hu,B9 hw]
  by_cases Wc:0<=x.dst
  .obtain⟨dn,hdn⟩:∃u:Nat,x.dst=u:=⟨x.dst.toNat,by omega⟩;rw[hdn] at Dw hd;have XP:(0:Int)<=(dn:Int):=by omega
   obtain⟨bO,y,hOa,LO,rO,y0,y1,_⟩:=k4.W.at (r:=dn) (by omega);obtain⟨sT,hT4⟩:=k4.W.hT;simp at hT4;rw[hOa,LO] at hT4;have arw:dn<ag:=by omega
   simp[b3,b8,Dw,XP,aq Dw,aq hT4,arw,rO,-ae];have g6:=(aa.refl g4.ok).put (S:=(· =h'.next)) (off:=1) (vs:=[Value.int .i64 y]) ⟨_,Dw⟩ (.inr rfl);have St:∃s,(put h4 h'.next 1 [.int .i64 x.op,.int .i64 dn,.bool u.1,.int .i64 u.2,.bool w.1,.int .i64 w.2,.int .i64 x.fn,.slice x.args.a x.args.l x.args.c] [Value.int .i64 y] 0).tr.get h'.next=some (.aC (kh.enc ⟨x.op,y,u,w,x.fn,x.args⟩) false 0 s):=⟨h4.clock,by rw[aA];rfl⟩;have Ap:=g6.get g4.ok vS (by omega);have k6:=k4.box g4.ok g6 κY nT nO;generalize put h4 h'.next 1 _ _ 0=h6 at*;obtain⟨s6,St⟩:=St;have lY:h'.next<h6.next:=g6.ok.wf _ _ St;refine SO g6.ok k6 y4 hx (x':=⟨x.op,y,u,w,x.fn,x.args⟩) y1 hu.2.1 hw.2.1 SH Ap κX Ev St (by simp[b6]) (by simp[b7]) (by simp[b8]) ?_;intro e7 h7 K7 g7 k7 Ss;rw[List.set_set] at k7;have aes:=K7.at (t:=34) (by simp;exact b34);simp[aes,wj];refine fin e7 h7 y y1 ?_ ?_ k7 Ss
   .refine ax.trans ?_ (K7.bH)
    repeat (refine ax.set ?_)
    exact KK4
   .exact(G4.trans' g6 (fun _ _ h=>h) (fun z hz e=>by have:=g.next;omega)).trans g7
  .simp[b8,Dw,Wc];refine SO g4.ok k4 y4 hx (x':=⟨x.op,x.dst,u,w,x.fn,x.args⟩) hd hu.2.1 hw.2.1 SH vS κX Ev Dw (by simp[b6]) (by simp[b7]) (by simp[b8]) ?_;intro e7 h7 K7 g7 k7 Ss;rw[List.set_set] at k7;have aes:=K7.at (t:=34) (by simp;exact b34);simp[aes,wj];refine fin e7 h7 x.dst hd ?_ (G4.trans g7) k7 Ss;refine ax.trans ?_ (K7.bH)
   repeat (refine ax.set ?_)
   exact KK4
 .have:j=r.ls.length:=by omega
  subst this;simp[q33,Q8];exact C _ _ ys Je (ax.set K) g k' vC HF nt
end
section
variable{n0 ag:Nat}{κ cap:Nat->Nat}{B:SV}{rs:List XR}{T3:Nat}{OF:SV}{fs:List Int}
def NbD:List Nat:=[80,81,82,83,84,85,86,87,88,89,90]
theorem ab0(ok:bl h)(k:FR h n0 ag κ cap B rs T3 OF fs){r:XR}(y4:rs[j]?=some r)(hF:h.tr.get F=some (.aC (aj name p rg B) false 0 sF))(hX:h.tr.get X=some (.aC (eW.enc r0) false 0 sX))(h0:r0.on=r.on)(f1:ai e 1=.pointer (some ⟨F,0,none⟩))(f4:ai e 4=BW T3)(f5:ai e 5=.int .i64 j)(f6:ai e 6=.pointer (some ⟨X,0,none⟩))(C:∀e' h' u,ax NbD e e'->aa (fun z=>κ z≠0) h h'->FR h' n0 ag κ cap B (rs.set j {r with on:=u}) T3 OF fs->QQ .normal e' h'):az FF QN e h QQ:=by
 have aM:=(bK.mp y4).1;have R:=k.O.os.r j r y4;obtain⟨bB,cs,oB,sB,dZ,Ak,_,dV,cS,_⟩:=k.O.A.el y4;have κB:κ bB=2:=k.O.kB bB (bC dZ);have cV:=k.O.A.len;have dX:=hF;simp[aj] at dX;rw[dZ,cV] at dX;have ef:=hX;simp only[p6] at ef;simp at ef;rw[h0] at ef;have oF:=ok.bE hF;have oX:=ok.bE hX;have zw:=ok.st _ _ _ _ _ hF;unfold QN;simp[f1,f4,f5,f6,dX,ef,aq dX,aq ef,oF,oX];have mN:=(aS ok).ok;have gt:aa aG h (tick h):=aS ok;generalize tick h=h1 at mN gt⊢;have k1:=k.aX ok gt;have ta:=gt.get ok dX;refine aZ.cu (V:=NwQ ag r.on h1) (by simpa [f4] using vt mN k1.W R.on) ?_;rintro _ h2⟨g2,u,rfl,u1,u2,u3⟩;have k2:=k1.aX mN g2;have qL:=g2.get mN ta;obtain⟨Sf,cs2,oB2,sB2,ir,CA,_,XU,_,Ym⟩:=k2.O.A.el y4;rw[dZ] at ir;cases ir;have hf:=XU 3 2 (by decide);simp at hf;simp[f1,qL,zw,aM,CA,hf];have g3:=aJ (off:=j*6+3) (vs:=[Value.bool u.1,Value.int .i64 u.2]) g2.ok CA;have A3:=Ym {r with on:=u} 3 [Value.bool u.1,Value.int .i64 u.2] (by simp) rfl (put h2 bB (j*6+3) cs2 [Value.bool u.1,Value.int .i64 u.2] oB2) ⟨h2.clock,by simp⟩;have os3:=(k2.O.os.ad4 y4 r.kind u u2).grow g2.ok g3 (fun x e=>.inr (by rw[e];exact κB));refine C _ _ u ?_ ?_ (k2.with g2.ok g3 (fun x e=>by rw[e];omega) ⟨os3,A3,k2.O.kB⟩)
 .repeat (refine ax.set ?_)
  exact ax.refl _ _
 .exact(gt.trans g2).aX.trans (g3.bH (fun z _ e=>by rw[e];omega))
structure OG(rs bD:List XR):Prop where
 len:bD.length=rs.length
 at_:∀(i:Nat)(r r':XR),rs[i]?=some r->bD[i]?=some r'->r'.ps=r.ps/\r'.ts=r.ts/\r'.kind=r.kind/\r'.ls.length=r.ls.length/\(∀x∈r'.ls,x.args.l<=1048576)/\∀φ,jG φ r'.ls=jG φ r.ls
def NbJ(h:ab)(n0 ag:Nat)(κ cap:Nat->Nat)(B:SV)(rs:List XR)(T3:Nat)(OF:SV)(fs:List Int)(F:Nat)(v2:Value)(m:Nat)(e':Env)(h':ab):Prop:=
 ∃(j:Nat) (bD:List XR),m=rs.length-j/\j<=rs.length/\ai e' 1=.pointer (some ⟨F,0,none⟩)/\ai e' 2=v2/\ai e' 3=.pointer (some ⟨T3,0,none⟩)/\ai e' 4=BW T3/\ai e' 24=B.v/\ai e' 25=.int .i64 rs.length/\ai e' 26=.int .i64 j/\aa (fun z=>κ z≠0) h h'/\FR h' n0 ag κ cap B bD T3 OF fs/\OG rs bD/\∀i,j<=i->bD[i]?=rs[i]?
theorem U2(ok:bl h)(k:FR h n0 ag κ cap B rs T3 OF fs)(T:TF0 rs)(hF:h.tr.get F=some (.aC (aj name p rg B) false 0 sF))(κF:κ F=0)(f1:ai e 1=.pointer (some ⟨F,0,none⟩))(f2:ai e 2=v2)(f3:ai e 3=.pointer (some ⟨T3,0,none⟩))(f4:ai e 4=BW T3)(f24:ai e 24=B.v)(f25:ai e 25=.int .i64 rs.length)(f26:ai e 26=.int .i64 0)(C:∀e' h' bD,ai e' 1=.pointer (some ⟨F,0,none⟩)->ai e' 2=v2->ai e' 3=.pointer (some ⟨T3,0,none⟩)->ai e' 4=BW T3->aa (fun z=>κ z≠0) h h'->FR h' n0 ag κ cap B bD T3 OF fs->OG rs bD->QQ (.exit 0) e' h'):az FF (.loop wy) e h QQ:=by
 have DK:=T.DK;refine az.loop (NbJ h n0 ag κ cap B rs T3 OF fs F v2) ?_ (n:=rs.length) ⟨0,rs,rfl,by omega,f1,f2,f3,f4,f24,f25,f26,.refl ok,k,⟨rfl,fun i r r' a b=>?_⟩,fun _ _=>rfl⟩
 .rintro m e' h'⟨j,bD,rfl,hj,q1,q2,q3,q4,OT,q25,Vk,g,k',RR,xP⟩;have cw:=g.ok;have rh:=RR.len;unfold wy;by_cases aM:j<rs.length
  .have wj:=wrap_i64 ((j:Int)+1) (by omega) (by omega);obtain⟨r,hr⟩:=ay rs j aM;have DD:bD[j]?=some r:=by rw[xP j (dH _)];exact hr
   have hm:=bU hr;obtain⟨sp,sl⟩:=T.size r hm;have R:=k'.O.os.r j r DD;obtain⟨bB,cs,o,s,ha,hb,_,_,cS,_⟩:=k'.O.A.el DD;have rd:=cS 0 6 (by decide);simp[-ae] at rd;have cV:=k'.O.A.len;have tc:=R.L.len;simp at OT;rw[ha,cV,rh] at OT;simp[OT,q25,Vk,aM,rd,-ae,au,tc];refine az.cut (fun h2=>aa aG h' h2/\∃s,h2.tr.get h'.next=some (.aC (eW.enc r) false 0 s)) ?_ ?_
   .exact⟨(aa.refl cw).var _ _,h'.clock,by simp[aR,tc]⟩
   rintro h2⟨g2,sX,ef⟩;have k2:=k'.aX cw g2;have ln:=g.next;have κX:κ h'.next=0:=by
    have hw:=k'.O.os.new h'.next;rcases uM (κ h'.next) with h|h
    .exact h
    .have:=(hw (by omega)).2;omega
   refine ab7 g2.ok k2 DD (by omega) (T.al r hm) ef κX rfl (by simp[q4]) (by simp[q3]) (by simp) (by simp[tc]) (by simp) (by simp) ?_;intro e4 h4 ys Yq K4 g4 k4 aq8 afQ vS;have b1:=K4.at (t:=1) (by simp;exact q1);have b2:=K4.at (t:=2) (by simp;exact q2);have b3:=K4.at (t:=3) (by simp;exact q3);have b4:=K4.at (t:=4) (by simp;exact q4);have b5:ai e4 5=.int .i64 j:=K4.at (t:=5) (by simp);have b6:ai e4 6=.pointer (some ⟨h'.next,0,none⟩):=K4.at (t:=6) (by simp);have b24:=K4.at (t:=24) (by simp;exact OT);have b25:=K4.at (t:=25) (by simp;exact q25);have b26:=K4.at (t:=26) (by simp;exact Vk);have hr4:(bD.set j {r with ls:=ys})[j]?=some {r with ls:=ys} :=by rw[eu,aY rfl,aY (by omega)]
   have G4:=(g.trans g2.aX).trans g4;have zt:=G4.get ok hF (fun e=>e κF);simp;refine ab0 g4.ok k4 hr4 zt vS rfl b1 b4 b5 b6 ?_;intro e5 h5 u K5 g5 k5;rw[List.set_set] at k5;have c26:=K5.at (t:=26) b26;have c24:=K5.at (t:=24) b24;simp[c26,wj];refine⟨rs.length-(j+1),by omega,j+1,bD.set j {r with ls:=ys,on:=u},rfl,aM,by simp[K5.at (t:=1) b1],by simp[K5.at (t:=2) b2],by simp[K5.at (t:=3) b3],by simp[K5.at (t:=4) b4],by simp[c24,ha,cV,rh],by simp[K5.at (t:=25) b25],by simp,G4.trans g5,k5,⟨by simp[rh],fun i a c h1 h2=>?_⟩,fun i hi=>?_⟩
   .rw[eu] at h2;by_cases e1:j=i
    .subst e1;rw[aY rfl,aY (by omega)] at h2;cases h2;rw[hr] at h1;cases h1;exact⟨rfl,rfl,rfl,Yq,aq8,afQ⟩
    .rw[bc e1] at h2;exact RR.at_ i a c h1 h2
   .rw[eu,bc (by omega)];exact xP i (by omega)
  .have:j=rs.length:=by omega
   subst this;simp[q25,Vk];exact C _ _ bD (by simp[q1]) (by simp[q2]) (by simp[q3]) (by simp[q4]) g k' RR
 .rw[a] at b;cases b;exact⟨rfl,rfl,rfl,rfl,T.al r (bU a),fun _=>rfl⟩
end
def amu(h:ab)(r:Nat)(es:List (Value×Value)):ab:= {h with clock:=h.clock+1,tr:=h.tr.set r (.map es)}
@[simp] theorem aij(h:ab)(r:Nat)(es:List (Value×Value)):(amu h r es).next=h.next:=rfl
@[simp] theorem aev(h:ab)(r:Nat)(es:List (Value×Value)):(amu h r es).clock=h.clock+1:=rfl
def ap8(x:Int×Int):Nat:=(2-x.1).toNat
def pot(N:Nat)(fx:List (Int×Int))(gs:List (Int×Int)):Nat:=(fx.map ap8).sum+(N-gs.length)
section
variable{h0 hz:ab}{S d m n nb:Nat}{name:ByteArray}{p r:Int}{B AH:SV}
def Adv(N:Nat)(fx gs:List (Int×Int))(dO:Bool)(fx' gs':List (Int×Int))(NC:Bool):Prop:=pot N fx' gs'<=pot N fx gs/\(dO=false->NC=true->pot N fx' gs'<pot N fx gs)/\(dO=true->NC=true)
theorem Adv.refl(N:Nat)(fx gs:List (Int×Int))(dO:Bool):Adv N fx gs dO fx gs dO:=⟨dH _,(fun h1 h2=>by rw[h1] at h2;cases h2),fun h=>h⟩
end
section
variable{S d m n:Nat}{name:ByteArray}{p r:Int}{B AH:SV}
end
section
variable{S d m:Nat}{name:ByteArray}{p r:Int}{B AH:SV}{n0 ag:Nat}{κ cap:Nat->Nat}{rs:List XR}{fx:List (Int×Int)}
variable{Y:Nat}
end
section
variable{S d m:Nat}{name:ByteArray}{p r:Int}{B AH:SV}{n0 ag:Nat}{κ cap:Nat->Nat}{rs:List XR}{fx:List (Int×Int)}{Y:Nat}
end
section
variable{S d m:Nat}{name:ByteArray}{p r:Int}{B AH:SV}{n0 ag:Nat}{κ cap:Nat->Nat}{rs:List XR}{fx:List (Int×Int)}{Y:Nat}
theorem bJ.arr{E:Enc α}{L:SV}{xs:List α}(a:bJ E n0 h L.v xs):fS E h L xs:=by
 rcases a with⟨rfl,e⟩|⟨b,s,e,hb,hx,hn⟩
 .simp at e;exact⟨e.2.1,.inl ⟨e.1,e.2.2,rfl⟩⟩
 .simp at e;exact⟨e.2.1,.inr ⟨b,E.sz,s,[],e.1,by simp[e.2.2],by simpa using hb,.inr rfl⟩⟩
theorem cH.aeI(w:cH h n0 ag κ cap rs)(ok:bl h)(qk:n0<=h.next){r:XR}(hr:rs[i]?=some r)(g:aa aG h h'){L':SV}{zA:List XI}(hL:fS kh h' L' zA){nl:Nat}(hb:∀b,aw L'.v b->nl<=b)(Wh:n0<=nl/\nl<=h.next)(hk0:∀b,nl<=b->κ b=0)(LQ:∀x∈zA,x.dst<ag/\h_ ag x.a/\h_ ag x.b/\VA κ cap x.args):∃κ':Nat->Nat,cH h' n0 ag κ' cap (rs.set i {r with L:=L',ls:=zA})/\(∀b,b<nl->κ' b=κ b)/\(∀b,κ' b=2->κ b=2):=by
 classical
 obtain⟨κ',hκ⟩:∃κ':Nat->Nat,∀b,κ' b=if aw L'.v b then 4 else κ b:=⟨fun b=>if aw L'.v b then 4 else κ b,fun b=>rfl⟩
 have low:∀b,b<nl->κ' b=κ b:=fun b cC=>by rw[hκ,bc (fun e=>by have:=hb b e;omega)]
 have back:∀k b,k≠4->κ' b=k->κ b=k:=fun k b hk cC=>by
  rw[hκ] at cC;split at cC
  .omega
  .exact cC
 refine⟨κ',w.agE ok hr (g.bH (fun _ _ h=>h.elim)) hL (fun b cC=>?_) (fun b cC=>back 1 b (by decide) cC) (fun b cC=>by rw[hκ,aY cC]) (fun j x hx _ b FZ cC=>?_) (fun b cC=>?_) LQ,low,fun b cC=>back 2 b (by decide) cC⟩
 .rw[hκ,bc (fun e=>cC (hk0 b (hb b e)))]
 .have:=hk0 b (hb b FZ);have:=(w.r j x hx).kL b cC;omega
 .rw[hκ] at cC;split at cC
  .rename_i e;have:=hb b e;exact⟨by omega,hL.bE g.ok e⟩
  .have:=w.new b cC;have:=g.next;omega
end
section
variable{h0 hz:ab}{S d m n nb:Nat}{name:ByteArray}{p r:Int}{B AH:SV}
end
section
variable{h0 hz:ab}{S d m n nb:Nat}{name:ByteArray}{p r:Int}{B AH:SV}
end
section
variable{h0 hz:ab}{S d m n nb:Nat}{name:ByteArray}{p r:Int}{B AH:SV}
end
section
variable{h0 hz:ab}{S d m n nb:Nat}{name:ByteArray}{p r:Int}{B AH:SV}
end
section
variable{h0 hz:ab}{S d m n nb:Nat}{name:ByteArray}{p r:Int}{B AH:SV}
end
section
variable{h0 hz:ab}{S d m n nb:Nat}{name:ByteArray}{p r:Int}{B AH:SV}
structure aen(n:Nat)(ah:List (List Int))(bs:List GB):Prop where
 len:bs.length<=1000
 ahl:ah.length=bs.length
 row:∀(i:Nat)(ps:List Int),ah[i]?=some ps->ps.length<1000000/\∀x∈ps,0<=x/\x<bs.length
 ph:∀(i:Nat)(b:GB)(ps:List Int),bs[i]?=some b->ah[i]?=some ps->b.dk.length<1000000/\∀q∈b.dk,(0<=q.dst/\q.dst<n)/\q.row.length=ps.length/\∀v∈q.row,h_ n v
 li:∀b∈bs,b.list.length<1000000/\∀x∈b.list,x.dst<n/\h_ n x.a/\h_ n x.b
 on:∀b∈bs,h_ n b.on
 to:∀b∈bs,b.to.length<1000000/\∀t∈b.to,0<=t/\t<bs.length
end
section
variable{h0 hz:ab}{S d m n nb:Nat}{name:ByteArray}{p r:Int}{B AH:SV}
end
section
variable{h h':ab}{n0 ag:Nat}{κ cap:Nat->Nat}{rs:List XR}
end
theorem acK(O:kW h n0 ag κ cap B rs)(w:TF0 rs)(V:BVs ag rs bs):aen ag (Edge.bp (bt bs)) bs:=by
 have DK:=w.DK;have hl:=V.1;have As:=V.dD;have ku:(bx rs).length=rs.length:=ck rs;have row:∀(i:Nat)(ps:List Int),(Edge.bp (bt bs))[i]?=some ps->ps.length<50/\∀x∈ps,0<=x/\x<bs.length:=fun i ps hp=>by
  rw[As] at hp;refine⟨w.Hn ps (bU hp),fun x hx=>?_⟩;have h2:x∈((Edge.bp (bx rs))[i]?).getD []:=by rw[hp];exact hx
  obtain⟨j,rfl,ts,ot,_⟩:=(Edge.mL w.nat).1 h2;have:=(bK.mp ot).1;omega
 have at':∀(i:Nat)(b:GB),bs[i]?=some b->∃r,rs[i]?=some r/\BV ag r b:=fun i b hb=>by obtain⟨r,hr⟩:=ay rs i (by rw[<-hl];exact(bK.mp hb).1);exact⟨r,hr,V.2 i r b hr hb⟩
 have mem:∀b∈bs,∃(i:Nat) (r:XR),rs[i]?=some r/\BV ag r b:=fun b hb=>by obtain⟨i,hi⟩:=oD hb;obtain⟨r,hr,v⟩:=at' i b hi;exact⟨i,r,hr,v⟩
 refine⟨by omega,by rw[Edge.cR,As,ku,hl],fun i ps hp=>⟨by have:=(row i ps hp).1;omega,(row i ps hp).2⟩,fun i b ps hb hp=>?_,fun b hb=>?_,fun b hb=>?_,fun b hb=>?_⟩
 .obtain⟨r,hr,v⟩:=at' i b hb;have sz:=(w.size r (bU hr)).1;refine⟨by rw[v.pl];omega,fun q hq=>?_⟩;obtain⟨j,hj⟩:=oD hq;obtain⟨q0,hq0⟩:=ay r.ps j (by rw[<-v.pl];exact(bK.mp hj).1);obtain⟨e1,e2,e3⟩:=v.ps j q0 q hq0 hj;have hm:=bU hq0;have hd:=((O.os.r i r hr).ps q0 hm).1;rw[As] at hp;have rp:=w.CY i r ps hr hp q0 hm;exact⟨by rw[e1];exact hd,by omega,e3⟩
 .obtain⟨i,r,hr,v⟩:=mem b hb;have sz:=(w.size r (bU hr)).2;refine⟨by rw[v.ll];omega,fun x hx=>?_⟩;obtain⟨j,hj⟩:=oD hx;obtain⟨q0,hq0⟩:=ay r.ls j (by rw[<-v.ll];exact(bK.mp hj).1);obtain⟨⟨c1,c2,c3,c4,c5⟩,_⟩:=v.ls j q0 x hq0 hj;obtain⟨a1,a2,a3,_⟩:=(O.os.r i r hr).ls q0 (bU hq0);exact⟨by rw[<-c2];exact a1,by rw[<-c3];exact a2,by rw[<-c4];exact a3⟩
 .obtain⟨i,r,hr,v⟩:=mem b hb;rw[v.on];exact(O.os.r i r hr).on
 .obtain⟨i,r,hr,v⟩:=mem b hb;have hm:=bU hr;have h2:=w.two r hm;rw[v.to];refine⟨by omega,fun t ht=>?_⟩;have:=w.to r hm t ht;omega
section
variable{axT:Int}{fx:List (Int×Int)}{rs xs:List XR}
end
def AX(n:Nat)(m:Mv):Prop:=(0<=m.to/\m.to<n)/\(m.tQ=true->0<=m.n/\m.n<n)
theorem QL(hs:0<=s/\s<n){l out:List Mv}(hl:l≠[])(h:∀m∈l,AX n m)(ho:∀m∈out,AX n m):(∀m∈(cD s l out).1,AX n m)/\∀m∈(cD s l out).2,AX n m:=by
 unfold cD;split
 .rename_i i hf;have hi:i<l.length:=by unfold eY at hf;rw[List.findIdx?_eq_some_iff_getElem] at hf;exact hf.1
  refine⟨fun m hm=>h m (List.mem_of_mem_eraseIdx hm),fun m hm=>?_⟩;rcases rM.1 hm with hm|hm
  .exact ho m hm
  .rw[List.mem_singleton] at hm;rw[hm,List.getD_eq_getElem?_getD,ff hi];exact h _ (Ai hi)
 .obtain⟨a,t,rfl⟩:∃a t,l=a::t:=by cases l with
   |nil=>exact absurd rfl hl
   |cons a t=>exact⟨a,t,rfl⟩
  refine⟨fun m hm=>?_,fun m hm=>?_⟩
  .obtain⟨y,hy,rfl⟩:=j_.mp hm;unfold dh;split
   .exact⟨(h y hy).1,fun _=>hs⟩
   .exact h y hy
  .rcases rM.1 hm with hm|hm
   .exact ho m hm
   .rw[List.mem_singleton] at hm;rw[hm];exact⟨hs,fun _=>(h a (Dq ..)).1⟩
theorem Gz{s:Int}{n:Nat}(hs:0<=s/\s<n):∀(k:Nat)(l out:List Mv),(∀m∈l,AX n m)->(∀m∈out,AX n m)->∀m∈mj s k l out,AX n m
 |0,_,_,_,ho,m,hm=>ho m hm
 |k+1,l,out,h,ho,m,hm=>by
  unfold mj at hm;split at hm
  .exact ho m hm
  .rename_i hl;obtain⟨h1,h2⟩:=QL hs hl h ho;exact Gz hs k _ _ h1 h2 m hm
theorem DJ{s:Int} :∀(n:Nat)(l out:List Mv),(mj s n l out).length<=out.length+n
 |0,_,out=>by simp[mj]
 |n+1,l,out=>by
  unfold mj;split
  .omega
  .have:=DJ (s:=s) n (cD s l out).1 (cD s l out).2;have h2:(cD s l out).2.length=out.length+1:=by unfold cD;split<;>simp
   omega
theorem NG(s:Int)(xs:List Mv):(uu s (xs.filter fun m=> !fJ m)).length<=2*xs.length+1:=by have:=DJ (s:=s) (2*(xs.filter fun m=> !fJ m).length+1) (xs.filter fun m=> !fJ m) [];have h2:=Xs (fun m=> !fJ m) xs;unfold uu;simp at this⊢;omega
theorem QK(hs:0<=s/\s<n){xs:List Mv}(h:∀m∈xs,AX n m):∀m∈uu s (xs.filter fun m=> !fJ m),AX n m:=by unfold uu;exact Gz hs _ _ _ (fun m hm=>h m (VX.mp hm).1) (fun m hm=>by simp at hm)
theorem h_.wider(h:h_ n v):h_ (n+1) v:=fun e=>by have:=h e;omega
theorem kW.wider{h:ab}{n0 ag:Nat}{κ cap:Nat->Nat}{B:SV}{rs:List XR}(w:kW h n0 ag κ cap B rs):kW h n0 (ag+1) κ cap B rs:=by
 refine⟨⟨fun i r hr=>?_,w.os.dP,w.os.dL,w.os.dT,fun b hb=>?_,w.os.new⟩,w.A,w.kB⟩
 .have R:=w.os.r i r hr;exact⟨R.P,R.L,R.T,R.kP,R.kL,R.kT,fun p hp=>by obtain⟨h1,h2⟩:=R.ps p hp;exact⟨by omega,h2⟩,fun x hx=>by obtain⟨h1,h2,h3,h4⟩:=R.ls x hx;exact⟨by omega,h2.wider,h3.wider,h4⟩,R.on.wider⟩
 .obtain⟨vs,o,s,h1,h2,h3,h4⟩:=w.os.V b hb;exact⟨vs,o,s,h1,h2,h3,fun v hv=>(h4 v hv).wider⟩
structure aiT(rs bD:List XR)(b to n:Nat):Prop where
 ex:∃(i:Nat) (r:XR) (L':SV) (zA:List XI),rs[i]?=some r/\bD=rs.set i {r with L:=L',ls:=zA} /\(i=b\/i=to)/\zA.length<=r.ls.length+n/\(∀x∈zA,x∈r.ls\/x.args.l=0)/\∀c:Int,c≠1->jG (fun s=>s.1==c) zA=jG (fun s=>s.1==c) r.ls
theorem Gs{α β:Type}(f:α->β){xs:List α}{x y:α}(hx:xs[i]?=some x)(e:f y=f x):(xs.set i y).map f=xs.map f:=by
 refine yT fun k=>?_;rw[tV,tV,eu];by_cases h:i=k
 .subst h;rw[aY rfl,aY (bK.mp hx).1,hx];simp[e]
 .rw[bc h]
def Dj(m:Mv):XI:=⟨1,m.to,(m.tQ,m.n),(false,0),0,cJ⟩
def LcL:List Nat:=[8,10,18,19,20,21,22,23,24,25,26,27,28,29,30]
def LcI(hS:ab)(ms:List Mv)(e:Env)(mm:Nat)(e':Env)(h':ab):Prop:=
 ∃(j:Nat) (A:SV),mm=ms.length-j/\j<=ms.length/\ax LcL e e'/\ai e' 18=.int .i64 j/\ai e' 8=A.v/\aa aG hS h'/\bJ kh hS.next h' A.v ((ms.take j).map Dj)
theorem QC(Io:bl hS)(hM:aL bM hS M.v ms)(hl:ms.length<900000)(f16:ai e 16=M.v)(f17:ai e 17=.int .i64 ms.length)(f18:ai e 18=.int .i64 0)(f8:ai e 8=cJ.v)(C:∀e' h' A,ax LcL e e'->ai e' 8=SV.v A->aa aG hS h'->bJ kh hS.next h' A.v (ms.map Dj)->QQ (.exit 0) e' h'):az FF (.loop x7) e hS QQ:=by
 have hMl:M.l=ms.length:=by obtain⟨a,cap,e,_⟩:=hM;simp at e;exact e.2.1
 refine az.loop (LcI hS ms e) ?_ (n:=ms.length) ⟨0,cJ,rfl,by omega,.refl _ _,f18,f8,.refl Io,.inl ⟨rfl,rfl⟩⟩;rintro mm e' h'⟨j,A,rfl,hj,K,Wp,q8,g,acc⟩;have ok:=g.ok;have wX:=K.at (t:=16) f16;have Ha:=K.at (t:=17) f17;unfold x7;by_cases aM:j<ms.length
 .have wj:=wrap_i64 ((j:Int)+1) (by omega) (by omega);obtain⟨m,hm⟩:=ay ms j aM;obtain⟨bW,QV,PA,Dv,_,_,af_⟩:=(hM.aX Io g).read hm;have rC:=af_ 0 3 (by decide);simp[-ae] at rC Dv;simp at wX;rw[Dv.1,hMl] at wX;have n1:¬h'.next=h'.next+1:=by omega
  simp[q8,wX,Ha,Wp,aM,rC,-ae,au];have g2:aa aG h' (put (aD h' [.int .i64 0,.bool false,.int .i64 0] 0) h'.next 0 [.int .i64 0,.bool false,.int .i64 0] [.int .i64 m.to,.bool m.tQ,.int .i64 m.n] 0):=(aa.refl ok).var _ _;have aaO:=acc.grow ok g2 (fun _ _ h=>h);have g3:=aH g2.ok (kh.enc (Dj m)) 0;have l:=g.next;obtain⟨v3,h3,ha,tR,g4,Bx⟩:=j4 (bytes:=80) g3.ok (z:=[.int .i64 0,.int .i64 0,.bool false,.int .i64 0,.bool false,.int .i64 0,.int .i64 0,.slice none 0 0]) rfl (aaO.grow g2.ok g3 (fun _ _ h=>h)) (jR (E:=kh) (bq _ _ _)) (by simp;omega) (by decide) (by simp;omega);obtain⟨A',rfl⟩:=bJ.Ws tR;refine gH (by simpa [Dj,cJ] using ha) ?_;simp[Wp,wj];refine⟨ms.length-(j+1),by omega,j+1,A',rfl,aM,?_,by simp,by simp,(g.trans (g2.trans g3)).trans' g4 (fun _ _ h=>h) (fun x hx e=>by have:=acc.of e;omega),?_⟩
  .repeat (refine ax.set ?_)
   exact K
  .rw[yS,hm];simpa using tR
 .have:j=ms.length:=by omega
  subst this;simp[Ha,Wp];rw[xK] at acc;exact C _ _ A (ax.set K) (by simp[q8]) g acc
section
variable{n0 n:Nat}{κ cap:Nat->Nat}{B:SV}{rs:List XR}
structure Cps(n:Nat)(cs:List XI):Prop where
 ok:∀x∈cs,x.dst<n/\h_ n x.a/\h_ n x.b/\x.args=cJ
 lZ:∀c:Int,c≠1->jG (fun s=>s.1==c) cs=0
theorem aey(h:∀m∈ms,AX n m):Cps n (ms.map Dj):=by
 refine⟨fun x hx=>?_,fun c hc=>?_⟩
 .obtain⟨m,hm,rfl⟩:=j_.1 hx;obtain⟨⟨_,h2⟩,h3⟩:=h m hm;exact⟨h2,h3,(fun e=>by cases e),rfl⟩
 .unfold jG;rw[List.length_eq_zero_iff,List.filter_eq_nil_iff];intro x hx;obtain⟨m,hm,rfl⟩:=j_.1 hx;show ¬((1:Int)==c)=true;simp;omega
theorem Cps.ls(w:Cps n cs):∀x∈cs,x.dst<n/\h_ n x.a/\h_ n x.b/\VA κ cap x.args:=fun x hx=>by obtain⟨h1,h2,h3,h4⟩:=w.ok x hx;exact⟨h1,h2,h3,by rw[h4];exact⟨dH _,.inl ⟨rfl,rfl⟩⟩⟩
def Pa(n0 n:Nat)(κ cap:Nat->Nat)(B:SV)(rs:List XR)(b to k:Nat)(h:ab)(_:Value)(h':ab):Prop:=
 aa (fun x=>κ x=2\/κ x=4) h h'/\∃(κ':Nat->Nat) (bD:List XR),(∀x,x<h.next->κ' x=κ x)/\kW h' n0 n κ' cap B bD/\aiT rs bD b to k
theorem abU(Io:bl hS)(O:kW hS n0 n κ cap B rs)(qk:n0<=hS.next)(g:aa aG hS h)(acc:bJ kh hS.next h A.v cs)(Cs:Cps n cs)(ht:rs[to]?=some rt)(hF:h.tr.get F=some (.aC (aj name p rg B) false 0 sF))(lF:F<hS.next)(dZ:B.a=some ⟨bB,0,none⟩)(yZ:rt.ls.length<=1000000)(AN:cs.length<=900000)(f0:ai e 0=.pointer (some ⟨F,0,none⟩))(f2:ai e 2=.int .i64 to)(f8:ai e 8=A.v)(C:∀e' h',(∀v,Pa n0 n κ cap B rs b to cs.length hS v h')->QQ .normal e' h'):az FF KT e h QQ:=by
 have ok:=g.ok;have l:=g.next;have O2:=O.aX Io g;have Rt:=O2.os.r to rt ht;obtain⟨Sf,cB,oB,sB,ir,Ak,Ur,dV,cS,jh⟩:=O2.A.el ht;rw[dZ] at ir;cases ir;have κB:κ bB=2:=O2.kB bB (bC dZ);have rd1:=cS 1 1 (by decide);simp[-ae] at rd1;have cV:=O2.A.len;have ku:=(bK.mp ht).1;have dX:=hF;simp[aj] at dX;rw[dZ,cV] at dX;unfold KT;have oF:=ok.bE hF;have oB:=ok.bE Ak;simp[f0,f2,f8,dX,aB,aq dX,ku,rd1,oF,oB,-ae];have zw:=ok.st _ _ _ _ _ dX;have gt:aa aG h (tick h):=aS ok;have ta:=gt.get ok dX;have JO:=acc.grow ok gt (fun _ _ h=>h);have g1:=g.trans gt;have O1:=O.aX Io g1;generalize tick h=h1 at*;have mN:=g1.ok;have l1:=gt.next;have Rt1:=O1.os.r to rt ht;obtain⟨L',h3,ea,hL3,g3,vk,_⟩:=se (E:=kh) (bytes:=80) (z:=[.int .i64 0,.int .i64 0,.bool false,.int .i64 0,.bool false,.int .i64 0,.int .i64 0,.slice none 0 0]) mN rfl (bJ.arr JO) Rt1.L.sl (by omega) (by decide);refine tw (by simpa using ea) ?_;have gS:aa aG hS h3:=g1.trans' g3 (fun _ _ h=>h) (fun x hx e=>by have:=JO.of e;omega);have κn:∀b,hS.next<=b->κ b=0:=fun b hb=>by
  rcases uM (κ b) with h|h
  .exact h
  .have:=(O.os.new b (by omega)).2;omega
 obtain⟨κ',O3,jg,h2⟩:=O.os.aeI Io qk ht gS hL3 (nl:=hS.next) (fun b hb=>by
  rcases vk b hb with h|h
  .exact JO.of h
  .omega) ⟨qk,dH _⟩ κn (fun x hx=>by
  rcases rM.1 hx with h|h
  .exact Cs.ls x h
  .exact Rt.ls x h)
 have A3:=O.A.aX Io gS;obtain⟨Sf,Sj,YV,sB3,ir,Al,afI,By,Yd,BB⟩:=A3.el ht;rw[dZ] at ir;cases ir;have EG:=By 1 1 (by decide);simp at EG;have qL:=g3.get mN ta (fun e=>by have:=JO.of e;omega);simp[qL,zw,ku,Al,EG];have gw:aa (· =bB) h3 (put h3 bB (to*6+1) Sj [.slice L'.a L'.l L'.c] YV):=aJ gS.ok Al;have A4:=BB {rt with L:=L',ls:=cs++rt.ls} 1 [.slice L'.a L'.l L'.c] (by simp) rfl (put h3 bB (to*6+1) Sj [.slice L'.a L'.l L'.c] YV) ⟨_,aA _ _ _ _ _ _⟩;have hlB:bB<hS.next:=by have:=(O.os.new bB (by omega)).2;omega
 have κB':κ' bB=2:=by rw[jg bB hlB];exact κB
 refine C _ _ fun _=>⟨gS.aX.trans (gw.bH (fun x _ e=>.inl (by rw[e];exact κB))),κ',_,jg,⟨O3.grow gS.ok gw (fun x e=>.inr (by rw[e];exact κB')),A4,fun x hx=>by rw[iD dZ hx];exact κB'⟩,⟨to,rt,L',_,ht,rfl,.inr rfl,by simp;omega,fun x hx=>?_,fun c hc=>?_⟩⟩
 .rcases rM.1 hx with h|h
  .exact .inr (by rw[(Cs.ok x h).2.2.2];rfl)
  .exact .inl h
 .unfold jG;rw[List.filter_append,IZ];have:=Cs.lZ c hc;unfold jG at this;omega
theorem YF(Io:bl hS)(O:kW hS n0 n κ cap B rs)(qk:n0<=hS.next)(g:aa aG hS h)(acc:bJ kh hS.next h A.v cs)(Cs:Cps n cs)(ht:rs[b]?=some rt)(hF:h.tr.get F=some (.aC (aj name p rg B) false 0 sF))(lF:F<hS.next)(κF:κ F=0)(dZ:B.a=some ⟨bB,0,none⟩)(yZ:rt.ls.length<=1000000)(AN:cs.length<=900000)(f0:ai e 0=.pointer (some ⟨F,0,none⟩))(f1:ai e 1=.int .i64 b)(f8:ai e 8=A.v)(C:∀e' h',(∀v,Pa n0 n κ cap B rs b to cs.length hS v h')->QQ .normal e' h'):az FF KU e h QQ:=by
 have ok:=g.ok;have l:=g.next;have O2:=O.aX Io g;have Rt:=O2.os.r b rt ht;obtain⟨Sf,cB,oB,sB,ir,Ak,Ur,dV,cS,jh⟩:=O2.A.el ht;rw[dZ] at ir;cases ir;have κB:κ bB=2:=O2.kB bB (bC dZ);have rd1:=cS 1 1 (by decide);simp[-ae] at rd1;have cV:=O2.A.len;have ku:=(bK.mp ht).1;have dX:=hF;simp[aj] at dX;rw[dZ,cV] at dX;unfold KU;have oF:=ok.bE hF;have oB:=ok.bE Ak;simp[f0,f1,f8,dX,aB,aq dX,ku,rd1,oF,oB,-ae];have zw:=ok.st _ _ _ _ _ dX;have gt:aa aG h (tick h):=aS ok;have ta:=gt.get ok dX;have JO:=acc.grow ok gt (fun _ _ h=>h);have g1:=g.trans gt;have O1:=O.aX Io g1;generalize tick h=h1 at*;have mN:=g1.ok;have l1:=gt.next;have Rt1:=O1.os.r b rt ht;obtain⟨L',h3,ea,hL3,g3,vk,_⟩:=se (E:=kh) (bytes:=80) (z:=[.int .i64 0,.int .i64 0,.bool false,.int .i64 0,.bool false,.int .i64 0,.int .i64 0,.slice none 0 0]) mN rfl Rt1.L (bJ.arr JO).sl (by omega) (by decide);refine tw (by simpa using ea) ?_;obtain⟨κ',O3,jg,h2⟩:=O1.os.ajc mN (by omega) ht g3 hL3 vk (fun x hx=>by
  rcases rM.1 hx with h|h
  .exact Rt1.ls x h
  .exact Cs.ls x h)
 have A3:=O1.A.grow mN g3 (fun x hx hs=>by have:=O1.kB x hx;have:=Rt1.kL x hs;omega);have gS:aa (fun x=>κ x=2\/κ x=4) hS h3:=g1.aX.trans (g3.bH (fun x _ hs=>.inr (Rt1.kL x hs)));obtain⟨Sf,Sj,YV,sB3,ir,Al,afI,By,Yd,BB⟩:=A3.el ht;rw[dZ] at ir;cases ir;have EG:=By 1 1 (by decide);simp at EG;have qL:=g3.get mN ta (fun e=>by have:=Rt1.kL _ e;omega);simp[qL,zw,ku,Al,EG];have gw:aa (· =bB) h3 (put h3 bB (b*6+1) Sj [.slice L'.a L'.l L'.c] YV):=aJ gS.ok Al;have A4:=BB {rt with L:=L',ls:=rt.ls++cs} 1 [.slice L'.a L'.l L'.c] (by simp) rfl (put h3 bB (b*6+1) Sj [.slice L'.a L'.l L'.c] YV) ⟨_,aA _ _ _ _ _ _⟩;have hlB:bB<hS.next:=by have:=(O.os.new bB (by omega)).2;omega
 have κB':κ' bB=2:=by rw[jg bB (by omega)];exact κB
 refine C _ _ fun _=>⟨gS.trans (gw.bH (fun x _ e=>.inl (by rw[e];exact κB))),κ',_,fun x hx=>jg x (by omega),⟨O3.grow gS.ok gw (fun x e=>.inr (by rw[e];exact κB')),A4,fun x hx=>by rw[iD dZ hx];exact κB'⟩,⟨b,rt,L',_,ht,rfl,.inl rfl,by simp,fun x hx=>?_,fun c hc=>?_⟩⟩
 .rcases rM.1 hx with h|h
  .exact .inl h
  .exact .inr (by rw[(Cs.ok x h).2.2.2];rfl)
 .unfold jG;rw[List.filter_append,IZ];have:=Cs.lZ c hc;unfold jG at this;omega
theorem YE(ok:bl h)(hn:n=ag+1)(O:kW h n0 n κ cap B rs)(qk:n0<=h.next)(hF:h.tr.get F=some (.aC (aj name p ag B) false 0 sF))(κF:κ F=0)(hb:rs[b]?=some rb)(ht:rs[to]?=some rt)(hM:aL bM h M.v ms)(AO:ms.length<=1000)(oJ:∀m∈ms,AX ag m)(yZ:∀r∈rs,r.ls.length<=1000000):aE FF Jo [.pointer (some ⟨F,0,none⟩),.int .i64 b,.int .i64 to,M.v] h (Pa n0 n κ cap B rs b to (2*ms.length+1) h):=by
 subst hn;refine aE.of TK ?_;unfold IB;have dX:=hF;obtain⟨bB,cB,oB,sB,dZ,Ak,Ur,dV,cS,_⟩:=O.A.el hb;have cV:=O.A.len;simp[aj] at dX;rw[dZ,cV] at dX;have lF:=ok.wf _ _ hF;have hMv:∃M':SV,M=M':=⟨M,rfl⟩;simp[dX,aq dX];refine aF.call (by simpa using NI ok hM AO (s:=(ag:Int)) (fun m hm=>by have:=(oJ m hm).1.2;omega)) ?_;rintro v h1⟨g1,A1⟩;obtain⟨R,rfl⟩:=bJ.Ws A1;have rp:=NG (ag:Int) ms;have y4:=QK (s:=(ag:Int)) (n:=ag+1) ⟨by omega,by omega⟩ (xs:=ms) (fun m hm=>by obtain⟨⟨a1,a2⟩,a3⟩:=oJ m hm;exact⟨⟨a1,by omega⟩,fun e=>by have:=a3 e;omega⟩);generalize uu (ag:Int) (ms.filter fun m=> !fJ m)=row at*;have hRl:R.l=row.length:=by obtain⟨a,cap,e,_⟩:=A1.sl;simp at e;exact e.2.1
 simp[hRl];refine QC g1.ok A1.sl (by omega) (by simp[hRl]) (by simp) (by simp) (by simp[cJ]) ?_;intro e2 h2 A K2 q8 g2 acc;have g:aa aG h h2:=g1.trans g2;have Cs:=aey y4;have cl:(row.map Dj).length=row.length:=by simp
 have aja:bJ kh h.next h2 A.v (row.map Dj):=bJ.low acc g1.next;have qL:=g.get ok dX;have zt:=g.get ok hF;have f0:ai e2 0=.pointer (some ⟨F,0,none⟩):=K2.at (t:=0) (by simp);have f1:ai e2 1=.int .i64 b:=K2.at (t:=1) (by simp);have f2:ai e2 2=.int .i64 to:=K2.at (t:=2) (by simp);obtain⟨Sf,cB2,oB2,sB2,ir,CA,_,_,Er,_⟩:=(O.A.aX ok g).el hb;rw[dZ] at ir;cases ir;have rd2:=Er 2 1 (by decide);simp[-ae] at rd2;have ma:=(bK.mp hb).1;have fin:∀(v:Value)(h':ab),Pa n0 (ag+1) κ cap B rs b to (row.map Dj).length h v h'->Pa n0 (ag+1) κ cap B rs b to (2*ms.length+1) h v h':=by rintro v h'⟨a1,κ',bD,a2,a3,⟨i,r,L',zA,c1,c2,c0,c3,c4⟩⟩;exact⟨a1,κ',bD,a2,a3,⟨i,r,L',zA,c1,c2,c0,by omega,c4⟩⟩
 simp[f0,f1,qL,aq qL,ma,rd2,-ae];by_cases hk:rb.kind=3
 .simp[hk];refine abU (b:=b) ok O qk g aja Cs ht zt lF dZ (yZ rt (bU ht)) (by omega) (by simp[f0]) (by simp[f2]) (by simp[q8]) ?_;intro e3 h3 H;simp;exact fin _ _ (H _)
 .simp[hk];refine YF (to:=to) ok O qk g aja Cs hb zt lF κF dZ (yZ rb (bU hb)) (by omega) (by simp[f0]) (by simp[f1]) (by simp[q8]) ?_;intro e3 h3 H;simp;exact fin _ _ (H _)
end
section
variable{n0 ag:Nat}{κ0 κ cap:Nat->Nat}{B:SV}{rs:List XR}{T3:Nat}{OF:SV}{fs:List Int}
structure LS(h:ab)(n0 ag:Nat)(κ0 κ cap:Nat->Nat)(B:SV)(rs:List XR)(T3:Nat)(OF:SV)(fs:List Int):Prop where
 O:kW h n0 (ag+1) κ cap B rs
 V:Cu h κ0 cap ag
 pd:∀r∈rs,∀q∈r.ps,(0<=q.1/\q.1<(ag:Int))/\VA κ0 cap q.2
 ext:∀b,κ0 b≠0->κ b=κ0 b
 W:NW h ag T3 OF fs
 κT:κ T3=0
 κO:∀b,aw OF.v b->κ b=0
theorem LS.aX{h h2:ab}(k:LS h n0 ag κ0 κ cap B rs T3 OF fs)(ok:bl h)(g2:aa aG h h2):LS h2 n0 ag κ0 κ cap B rs T3 OF fs:=⟨k.O.aX ok g2,k.V.grow ok g2 (fun _ h=>h.elim),k.pd,k.ext,k.W.aX ok g2,k.κT,k.κO⟩
def MvD:List Nat:=[15,118,119,120,121,122,123,124,125,126,127,128,129,130,131,132,133]
theorem abY(k:LS hS n0 ag κ0 κ cap B rs T3 OF fs)(Io:bl hS)(g:aa aG hS h)(hd:0<=q.1/\q.1<(ag:Int))(hv:VA κ0 cap q.2)(hk:kk<q.2.l)(acc:bJ bM hS.next h M.v ms)(AO:ms.length<=900000)(hY:h.tr.get Y=some (.aC (lu.enc q) false 0 sY))(f3:ai e 3=.pointer (some ⟨T3,0,none⟩))(f4:ai e 4=BW T3)(f13:ai e 13=.int .i64 kk)(f15:ai e 15=M.v)(f17:ai e 17=.pointer (some ⟨Y,0,none⟩))(C:∀e' h' M' m,ax MvD e e'->ai e' 15=SV.v M'->aa aG hS h'->bJ bM hS.next h' M'.v (ms++[m])->AX ag m->QQ .normal e' h'):az FF QI e h QQ:=by
 have ok:=g.ok;have k1:=k.aX Io g;obtain⟨d,Wd⟩:∃d:Nat,q.1=d:=⟨q.1.toNat,by omega⟩;have hdr:d<ag:=by omega
 obtain⟨bO,x,ha,hl,rdO,x0,x1,_⟩:=k1.W.at hdr;obtain⟨b,vs,o,s,v,hva,Ut,hc,hb,ho,Jc,vB,hx,hvk,rdV⟩:=hv.val k1.V hk;obtain⟨sT,hT⟩:=k1.W.hT;have XH:=hT;simp at XH;rw[ha,hl] at XH;have uN:=hY;simp only[Xk] at uN;simp at uN;rw[hva,Wd] at uN;have oT:=ok.bE hT;have oY:=ok.bE hY;have oO:Old bO h:=k1.W.A.bE ok (bC ha);have ob:=ok.bE hb;have stT:=ok.st _ _ _ _ _ hT;have stY:=ok.st _ _ _ _ _ hY;unfold QI;simp[f3,f4,f13,f15,f17,XH,uN,aB,aq XH,aq uN,oT,oY,oO,ob,hdr,rdO,hk,rdV,-ae];obtain⟨bO',cO,oO',sO,ha',hO,_⟩:=k1.W.A.el (i:=d) (x:=x) (by assumption);rw[ha] at ha';cases ha';have stO:=ok.st _ _ _ _ _ hO;have mN:=(aS ok).ok;have gt:aa aG h (tick h):=aS ok;have JO:=acc.grow ok gt (fun _ _ h=>h);have hT1:=gt.get ok XH;have hY1:=gt.get ok uN;have hO1:=gt.get ok hO;have k2:=k1.aX ok gt;generalize tick h=h1 at mN gt JO hT1 hY1 hO1 k2⊢;refine aZ.cu (V:=NwQ ag v h1) (by simpa [f4] using vt mN k2.W hvk) ?_;rintro _ h2⟨g2,u,rfl,u1,u2,u3⟩;have hT3:=g2.get mN hT1;have vT:=g2.get mN hY1;have hO3:=g2.get mN hO1;have aaO:=JO.grow mN g2 (fun _ _ h=>h);have g3:=aH g2.ok (bM.enc ⟨x,u.1,u.2⟩) 0;have G2:aa aG hS h2:=(g.trans gt).trans g2;have l:=G2.next;obtain⟨v3,h3,ea,tR,g4,Bx⟩:=j4 (bytes:=24) g3.ok (z:=[.int .i64 0,.bool false,.int .i64 0]) rfl (aaO.grow g2.ok g3 (fun _ _ h=>h)) (jR (E:=bM) (bq _ _ _)) (by omega) (by decide) (by simp;omega);obtain⟨M',rfl⟩:=bJ.Ws tR;simp[f3,hT3,vT,hO3,stT,stY,stO];refine tw (by simpa using ea) ?_;simp;refine C _ _ M' ⟨x,u.1,u.2⟩ ?_ (by simp) ((G2.trans g3).trans' g4 (fun _ _ h=>h) (fun y hy e=>by have:=aaO.of e;omega)) tR ⟨⟨x0,x1⟩,fun e=>u2 e⟩
 repeat (refine ax.set ?_)
 exact ax.refl _ _
def MvL:List Nat:=[15,17]++(List.range 21).map (· +114)
def MvI(hS:ab)(ag:Nat)(rt:XR)(e:Env)(mm:Nat)(e':Env)(h':ab):Prop:=
 ∃(i:Nat) (M:SV) (ms:List Mv),mm=rt.ps.length-i/\i<=rt.ps.length/\ax MvL e e'/\ai e' 114=.int .i64 i/\ai e' 15=M.v/\aa aG hS h'/\bJ bM hS.next h' M.v ms/\ms.length=i/\∀m∈ms,AX ag m
theorem abZ(Io:bl hS)(k:LS hS n0 ag κ0 κ cap B rs T3 OF fs)(ht:rs[to]?=some rt)(hk:∀q∈rt.ps,kk<q.2.l)(hl:rt.ps.length<=900000)(f3:ai e 3=.pointer (some ⟨T3,0,none⟩))(f4:ai e 4=BW T3)(f13:ai e 13=.int .i64 kk)(f15:ai e 15=cJ.v)(f112:ai e 112=rt.P.v)(f113:ai e 113=.int .i64 rt.ps.length)(f114:ai e 114=.int .i64 0)(C:∀e' h' M ms,ax MvL e e'->ai e' 15=SV.v M->aa aG hS h'->bJ bM hS.next h' M.v ms->ms.length=rt.ps.length->(∀m∈ms,AX ag m)->QQ (.exit 10) e' h'):az FF (.loop we) e hS QQ:=by
 have R:=k.O.os.r to rt ht;refine az.loop (MvI hS ag rt e) ?_ (n:=rt.ps.length) ⟨0,cJ,[],rfl,by omega,.refl _ _,f114,f15,.refl Io,.inl ⟨rfl,rfl⟩,rfl,fun m hm=>by simp at hm⟩;rintro mm e' h'⟨i,M,ms,rfl,hi,K,ag8,yE,g,acc,hms,oJ⟩;have ok:=g.ok;have q3:=K.at (t:=3) f3;have q4:=K.at (t:=4) f4;have q13:=K.at (t:=13) f13;have Q5:=K.at (t:=112) f112;have amx:=K.at (t:=113) f113;unfold we;by_cases fu:i<rt.ps.length
 .have wi:=wrap_i64 ((i:Int)+1) (by omega) (by omega);obtain⟨q,hq⟩:=ay rt.ps i fu;have Nf:=bU hq;obtain⟨hd,hva⟩:=k.pd rt (bU ht) q Nf;obtain⟨bP,cs,o,s,ha,hb,_,dV,cS,_⟩:=(R.P.aX Io g).el hq;have rd:=cS 0 2 (by decide);simp[-ae] at rd;have iF:=R.P.len;simp at Q5;rw[ha,iF] at Q5;simp[Q5,amx,ag8,fu,rd,-ae,au];refine az.cut (fun h2=>aa aG h' h2/\∃s,h2.tr.get h'.next=some (.aC (lu.enc q) false 0 s)) ?_ ?_
  .exact⟨(aa.refl ok).var _ _,h'.clock,by simp[aR]⟩
  rintro h2⟨g2,s2,uN⟩;refine abY k Io (g.trans g2) hd hva (hk q Nf) (acc.grow ok g2 (fun _ _ h=>h)) (by omega) uN (by simp[q3]) (by simp[q4]) (by simp[q13]) (by simp[yE]) (by simp) ?_;intro e3 h3 M' m K3 atU g3 tR hm;have amy:=K3.at (t:=114) (by simp;exact ag8);simp[amy,wi];refine⟨rt.ps.length-(i+1),by omega,i+1,M',ms++[m],rfl,fu,?_,by simp,by simp[atU],g3,tR,by simp[hms],fun y hy=>?_⟩
  .refine ax.set (ax.set (ax.trans ?_ (K3.bH)))
   repeat (refine ax.set ?_)
   exact K
  .rcases rM.1 hy with h|h
   .exact oJ y h
   .simp at h;rw[h];exact hm
 .have:i=rt.ps.length:=by omega
  subst this;simp[amx,ag8];exact C _ _ M ms (ax.set K) (by simp[yE]) g acc hms oJ
end
def YK(r:XR):Nat:=r.ls.length
def WB(rs:List XR)(j:Nat):Nat:=(rs.map YK).sum+((rs.take j).map fun r=>50*(2*r.ps.length+1)).sum
theorem R5{r:XR}(h:rs[j]?=some r):WB rs (j+1)=WB rs j+50*(2*r.ps.length+1):=by unfold WB;rw[yS,h];simp;omega
theorem Z2(f:α->Nat)(xs:List α)(j:Nat):((xs.take j).map f).sum<=(xs.map f).sum:=by
 have:(xs.map f).sum=((xs.take j).map f).sum+((xs.drop j).map f).sum:=by rw[<-List.sum_append,<-List.map_append,List.take_append_drop]
 omega
theorem ac7(h:(rs.map eT).sum<=300)(hl:rs.length<=72)(j:Nat):WB rs j<=40000:=by
 have h1:=Z2 (fun r:XR=>50*(2*r.ps.length+1)) rs j;have h2:∀xs:List XR,(xs.map YK).sum+(xs.map fun r:XR=>50*(2*r.ps.length+1)).sum<=100*(xs.map eT).sum+50*xs.length:=by
  intro xs;induction xs with
  |nil=>simp
  |cons x t ih=>
   simp only[IV,OI,List.length_cons];have e1:YK x=x.ls.length:=rfl;have e2:eT x=x.ps.length+x.ls.length:=rfl;omega
 have:=h2 rs;unfold WB;omega
structure Hy(c_ rs:List XR)(j W:Nat):Prop where
 len:rs.length=c_.length
 at_:∀(i:Nat)(r r0:XR),rs[i]?=some r->c_[i]?=some r0->r.kind=r0.kind/\r.ts=r0.ts/\r.ps=(if i<j then [] else r0.ps)
 al:∀r∈rs,∀x∈r.ls,x.args.l<=1048576
 lZ:∀c:Int,c≠1->gO (fun s=>s.1==c) rs=gO (fun s=>s.1==c) c_
 sum:(rs.map YK).sum<=W
 un:Seen c_->∀(i:Nat)(r r0:XR),rs[i]?=some r->c_[i]?=some r0->¬Edge.va (bx c_) i->r.ls=r0.ls
theorem Hy.start(T:TF0 c_):Hy c_ c_ 0 (WB c_ 0):=
 ⟨rfl,fun i r r0 h1 h2=>by rw[h1] at h2;cases h2;exact⟨rfl,rfl,by rw[bc (by omega)]⟩,T.al,fun _ _=>rfl,by unfold WB;omega,fun _ i r r0 h1 h2 _=>by rw[h1] at h2;cases h2;rfl⟩
section
variable{c_ rs bD:List XR}{j W:Nat}
theorem Hy.back(w:Hy c_ rs j W){r:XR}(h:rs[i]?=some r):∃r0,c_[i]?=some r0:=ay c_ i (by rw[<-w.len];exact(bK.mp h).1)
theorem Hy.ts(w:Hy c_ rs j W):bx rs=bx c_:=by
 refine yT fun k=>?_;unfold bx;rw[tV,tV];by_cases h:k<rs.length
 .have e:rs[k]?=some rs[k]:=ff h;obtain⟨r0,h0⟩:=w.back e;rw[e,h0];simp only[EF];rw[(w.at_ k _ r0 e h0).2.1]
 .rw[qY (by omega),qY (by have:=w.len;omega)]
theorem Hy.ll(w:Hy c_ rs j W):∀r∈rs,r.ls.length<=W:=fun r hr=>by have:=EK (f:=YK) hr;have:=w.sum;have e:YK r=r.ls.length:=rfl;omega
theorem Hy.lay(w:Hy c_ rs j W)(H:aiT rs bD b to n)(S:Seen c_->Edge.va (bx c_) b/\Edge.va (bx c_) to):Hy c_ bD j (W+n):=by
 obtain⟨i,r,L',zA,hr,rfl,hi,hl,hm,hc⟩:=H;have fu:=(bK.mp hr).1;refine⟨by simp[w.len],fun k x x0 h1 h2=>?_,fun x hx y hy=>?_,fun c wN=>?_,?_,fun S0 k x x0 h1 h2 h3=>?_⟩
 .rw[eu] at h1;by_cases e:i=k
  .subst e;rw[aY rfl,aY fu] at h1;cases h1;exact w.at_ i r x0 hr h2
  .rw[bc e] at h1;exact w.at_ k x x0 h1 h2
 .rcases Em hx with h|h
  .exact w.al x h y hy
  .subst h;rcases hm y hy with h|h
   .exact w.al r (bU hr) y h
   .omega
 .rw[<-w.lZ c wN];unfold gO;have:=rE (fun r:XR=>jG (fun s=>s.1==c) r.ls) rs i r {r with L:=L',ls:=zA} hr;have e:=hc c wN;dsimp only at this;omega
 .have:=rE YK rs i r {r with L:=L',ls:=zA} hr;have h2:=w.sum;have e1:YK r=r.ls.length:=rfl;have e2:YK {r with L:=L',ls:=zA} =zA.length:=rfl;omega
 .rw[eu] at h1;by_cases e:i=k
  .subst e;obtain⟨s1,s2⟩:=S S0;rcases hi with rfl|rfl
   .exact absurd s1 h3
   .exact absurd s2 h3
  .rw[bc e] at h1;exact w.un S0 k x x0 h1 h2 h3
theorem Hy.drop(w:Hy c_ rs j W){r:XR}(hr:rs[j]?=some r):Hy c_ (rs.set j (QS r)) (j+1) W:=by
 have aM:=(bK.mp hr).1;refine⟨by simp[w.len],fun k x x0 h1 h2=>?_,fun x hx y hy=>?_,fun c wN=>?_,?_,fun S0 k x x0 h1 h2 h3=>?_⟩
 .rw[eu] at h1;by_cases e:j=k
  .subst e;rw[aY rfl,aY aM] at h1;cases h1;obtain⟨a1,a2,_⟩:=w.at_ j r x0 hr h2;exact⟨a1,a2,by rw[aY (by omega)];rfl⟩
  .rw[bc e] at h1;obtain⟨a1,a2,a3⟩:=w.at_ k x x0 h1 h2;refine⟨a1,a2,?_⟩;rw[a3];by_cases h:k<j
   .rw[aY h,aY (by omega)]
   .rw[bc h,bc (by omega)]
 .rcases Em hx with h|h
  .exact w.al x h y hy
  .subst h;exact w.al r (bU hr) y hy
 .rw[<-w.lZ c wN];unfold gO;rw[Gs (y:=QS r) (f:=fun r:XR=>jG (fun s=>s.1==c) r.ls) hr rfl]
 .rw[Gs (y:=QS r) (f:=YK) hr rfl];exact w.sum
 .rw[eu] at h1;by_cases e:j=k
  .subst e;rw[aY rfl,aY aM] at h1;cases h1;exact w.un S0 j r x0 hr h2 h3
  .rw[bc e] at h1;exact w.un S0 k x x0 h1 h2 h3
theorem Hy.mem(w:Hy c_ rs j W){r:XR}(h:r∈rs):∃(i:Nat) (r0:XR),rs[i]?=some r/\c_[i]?=some r0:=by obtain⟨i,hi⟩:=oD h;obtain⟨r0,h0⟩:=w.back hi;exact⟨i,r0,hi,h0⟩
theorem Hy.tf(w:Hy c_ rs c_.length W)(T:TF0 c_)(hW:W<=100000):TF0 rs:=by
 have amh:∀r∈rs,r.ps=[]:=fun r hr=>by obtain⟨i,r0,h1,h2⟩:=w.mem hr;rw[(w.at_ i r r0 h1 h2).2.2,aY (bK.mp h2).1]
 refine⟨by rw[w.len];exact T.n1,by rw[w.len];exact T.DK,fun r hr=>?_,fun r hr t ht=>?_,fun k r hr q hq=>?_,?_,w.al,fun k hk=>?_⟩
 .obtain⟨i,r0,h1,h2⟩:=w.mem hr;obtain⟨a1,a2,_⟩:=w.at_ i r r0 h1 h2;have:=T.kind r0 (bU h2);unfold Ts at*;rw[a1,a2];exact this
 .obtain⟨i,r0,h1,h2⟩:=w.mem hr;obtain⟨_,a2,_⟩:=w.at_ i r r0 h1 h2;rw[a2] at ht;rw[w.len];exact T.to r0 (bU h2) t ht
 .rw[amh r (bU hr)] at hq;simp at hq
 .have h1:=w.sum;have h2:rs.map eT=rs.map YK:=List.map_congr_left fun r hr=>by show r.ps.length+r.ls.length=r.ls.length;rw[amh r hr];simp
  rw[h2];omega
 .rw[w.ts,w.len];exact T.short k (by rw[<-w.len];exact hk)
theorem Hy.seen(w:Hy c_ rs j W)(S:Seen c_):Seen rs:=by
 intro k r hr;obtain⟨r0,h0⟩:=w.back hr;rw[w.ts];by_cases hR:Edge.va (bx c_) k
 .exact .inl hR
 .obtain⟨h1,h2,h3⟩:=(S k r0 h0).resolve_left hR;obtain⟨a1,_,a3⟩:=w.at_ k r r0 hr h0;refine .inr ⟨by rw[a1];exact h1,?_,by rw[w.un S k r r0 hr h0 hR];exact h3⟩;rw[a3,h2];simp
end
structure RA(h:ab)(d:Nat)(ws:List SV)(pss:List (List Int)):Prop where
 aC:∃s,h.tr.get d=some (.aC (gQ.flat ws) false 0 s)
 len:ws.length=pss.length
 row:∀(i:Nat)(w:SV)(xs:List Int),ws[i]?=some w->pss[i]?=some xs->aL bg h w.v xs
def RAb(d:Nat)(ws:List SV)(b:Nat):Prop:=b=d\/∃w∈ws,aw w.v b
theorem RA.of{pss:List (List Int)}(w:je bg n0 h d ws pss):RA h d ws pss:=⟨w.aC,w.len,fun i x xs h1 h2=>(w.acc i x xs h1 h2).sl⟩
theorem RA.grow{S:Nat->Prop}{h h':ab}{d:Nat}{ws:List SV}{pss:List (List Int)}(w:RA h d ws pss)(ok:bl h)(g:aa S h h')(hS:∀b,RAb d ws b->¬S b):RA h' d ws pss:=by obtain⟨s,hd⟩:=w.aC;exact⟨⟨s,g.get ok hd (hS d (.inl rfl))⟩,w.len,fun i x xs h1 h2=>(w.row i x xs h1 h2).grow ok g (fun b hb=>hS b (.inr ⟨x,bU h1,hb⟩))⟩
structure PS(h0 h:ab)(name:ByteArray)(p:Int)(n0 ag:Nat)(κ0 cap:Nat->Nat)(F:Nat)(B:SV)(c_:List XR)(T3:Nat)(OF:SV)(fs:List Int)(d:Nat)(ws:List SV)(j W:Nat)(κ:Nat->Nat)(rs:List XR):Prop where
 g:aa (fun x=>κ0 x≠0) h0 h
 hF:∃s,h.tr.get F=some (.aC (aj name p ag B) false 0 s)
 lF:F<h0.next/\κ0 F=0
 low:∀x,x<h0.next->κ x=κ0 x
 S:LS h n0 ag κ0 κ cap B rs T3 OF fs
 Y:Hy c_ rs j W
 A:RA h d ws (Edge.bp (bx c_))
 fA:∀b,RAb d ws b->b<h0.next/\κ0 b=0
section
variable{h0 h:ab}{name:ByteArray}{p:Int}{n0 ag:Nat}{κ0 cap:Nat->Nat}{F:Nat}{B:SV}{c_:List XR}{T3:Nat}{OF:SV}{fs:List Int}{d:Nat}{ws:List SV}{j W:Nat}{κ:Nat->Nat}{rs:List XR}
theorem PS.κF(w:PS h0 h name p n0 ag κ0 cap F B c_ T3 OF fs d ws j W κ rs):κ F=0:=by rw[w.low F w.lF.1];exact w.lF.2
theorem PS.aX{h2:ab}(w:PS h0 h name p n0 ag κ0 cap F B c_ T3 OF fs d ws j W κ rs)(g:aa aG h h2):PS h0 h2 name p n0 ag κ0 cap F B c_ T3 OF fs d ws j W κ rs:=by obtain⟨s,hF⟩:=w.hF;exact⟨w.g.trans g.aX,⟨s,g.get w.g.ok hF⟩,w.lF,w.low,w.S.aX w.g.ok g,w.Y,w.A.grow w.g.ok g (fun _ _ h=>h),w.fA⟩
theorem PS.lay{h2:ab}{v:Value}(w:PS h0 h name p n0 ag κ0 cap F B c_ T3 OF fs d ws j W κ rs){b to n:Nat}(H:Pa n0 (ag+1) κ cap B rs b to n h v h2)(Sn:Seen c_->Edge.va (bx c_) b/\Edge.va (bx c_) to):∃(κ':Nat->Nat) (bD:List XR),PS h0 h2 name p n0 ag κ0 cap F B c_ T3 OF fs d ws j (W+n) κ' bD:=by
 obtain⟨g,κ',bD,abW,O',R⟩:=H;have ok:=w.g.ok;have l:=w.g.next;obtain⟨s,hF⟩:=w.hF;have κF:=w.κF;obtain⟨sT,hT⟩:=w.S.W.hT;have lT:=ok.wf _ _ hT;have κT:=w.S.κT;refine⟨κ',bD,w.g.trans' g (fun _ _ h=>h) (fun x hx e=>by have:=w.low x hx;omega),⟨s,g.get ok hF (by omega)⟩,w.lF,fun x hx=>by rw[abW x (by omega),w.low x hx],⟨O',w.S.V.grow ok g (fun b hb e=>by have:=w.S.ext b (by omega);omega),fun r hr q hq=>?_,fun b hb=>?_,w.S.W.grow ok g (by omega) (fun b hb e=>by have:=w.S.κO b hb;omega),by rw[abW T3 lT];exact κT,fun b hb=>by rw[abW b (w.S.W.A.bE ok hb)];exact w.S.κO b hb⟩,w.Y.lay R Sn,w.A.grow ok g (fun b hb e=>?_),w.fA⟩
 .obtain⟨i,r1,L',zA,qM,rfl,_⟩:=R;rcases Em hr with h|h
  .exact w.S.pd r h q hq
  .subst h;exact w.S.pd r1 (bU qM) q hq
 .have e:=w.S.ext b hb;have:=(w.S.O.os.new b (by omega)).2;rw[abW b this,e]
 .obtain⟨h1,h2⟩:=w.fA b hb;have:=w.low b h1;omega
def LpL:List Nat:=[13,14,15,17]++(List.range 38).map (· +102)
def LpI(h0:ab)(name:ByteArray)(p:Int)(n0 ag:Nat)(κ0 cap:Nat->Nat)(F:Nat)(B:SV)(c_:List XR)(T3:Nat)(OF:SV)(fs:List Int)(d:Nat)(ws:List SV)(j W c m:Nat)(e:Env)(mm:Nat)(e':Env)(h':ab):Prop:=
 ∃(k:Nat) (κ:Nat->Nat) (rs:List XR),mm=m-k/\k<=m/\ax LpL e e'/\ai e' 102=.int .i64 k/\PS h0 h' name p n0 ag κ0 cap F B c_ T3 OF fs d ws j (W+k*c) κ rs
theorem UO(T:TF0 c_)(qk:n0<=h0.next)(w:PS h0 h name p n0 ag κ0 cap F B c_ T3 OF fs d ws j W κ rs)(yq:c_[j]?=some r0){wj:SV}(hw:ws[j]?=some wj){pk:List Int}(yp:(Edge.bp (bx c_))[j]?=some pk)(hW:W+50*(2*r0.ps.length+1)<=40000)(f1:ai e 1=.pointer (some ⟨F,0,none⟩))(f3:ai e 3=.pointer (some ⟨T3,0,none⟩))(f4:ai e 4=BW T3)(f11:ai e 11=.int .i64 j)(f100:ai e 100=wj.v)(f101:ai e 101=.int .i64 pk.length)(f102:ai e 102=.int .i64 0)(C:∀e' h' κ rs,ax LpL e e'->PS h0 h' name p n0 ag κ0 cap F B c_ T3 OF fs d ws j (W+50*(2*r0.ps.length+1)) κ rs->QQ (.exit 8) e' h'):az FF (.loop wg) e h QQ:=by
 have hp50:pk.length<50:=T.Hn pk (bU yp);have aM:=(bK.mp yq).1;obtain⟨sp0,_⟩:=T.size r0 (bU yq);refine az.loop (LpI h0 name p n0 ag κ0 cap F B c_ T3 OF fs d ws j W (2*r0.ps.length+1) pk.length e) ?_ (n:=pk.length) ⟨0,κ,rs,rfl,by omega,.refl _ _,f102,by simpa using w⟩;rintro mm e' h'⟨k,κ,rs,rfl,hk,K,NX,w⟩;have ok:=w.g.ok;have q1:=K.at (t:=1) f1;have q3:=K.at (t:=3) f3;have q4:=K.at (t:=4) f4;have mP:=K.at (t:=11) f11;have acn:=K.at (t:=100) f100;have amv:=K.at (t:=101) f101;have hbound:k*(2*r0.ps.length+1)+(2*r0.ps.length+1)<=50*(2*r0.ps.length+1):=by have:=FW (2*r0.ps.length+1) (show k+1<=50 by omega);rw[tW] at this;omega
 unfold wg;by_cases pc:k<pk.length
 .have wk:=wrap_i64 ((k:Int)+1) (by omega) (by omega);obtain⟨x,hx⟩:=ay pk k pc;obtain⟨b,rfl,ts,ot,t,ht,hjt⟩:∃i:Nat,x=i/\∃ts,(bx c_)[i]?=some ts/\∃t∈ts,j=t.toNat:=by have:=(Edge.mL T.nat (u:=j) (x:=x)).1 (by rw[yp];exact bU hx);exact this
  have arc:b<c_.length:=by have:=(bK.mp ot).1;rw[ck] at this;exact this
  have cj:=w.Y.len;obtain⟨rb,Qn⟩:=ay rs b;obtain⟨rt,Ni⟩:=ay rs j;obtain⟨_,_,eps⟩:=w.Y.at_ j rt r0 Ni yq;rw[bc (by omega)] at eps;obtain⟨bW,QV,PA,Dv,_,_,asy⟩:=(w.A.row j wj pk hw yp).read hx;have rW:=asy 0 1 (by decide);simp[-ae] at rW Dv;simp at acn;rw[Dv.1] at acn;have DE:wj.l=pk.length:=by obtain⟨a,cap,e,_⟩:=w.A.row j wj pk hw yp;simp at e;exact e.2.1
  rw[DE] at acn;obtain⟨sF,hF⟩:=w.hF;have dX:=hF;simp[aj] at dX;obtain⟨bB,cs,oB,sB,dZ,Ak,_,dV,cS,_⟩:=w.S.O.A.el Ni;have cV:=w.S.O.A.len;rw[dZ,cV] at dX;have N2:=cS 0 1 (by decide);simp[-ae] at N2;have iF:=(w.S.O.os.r j rt Ni).P.len;have afJ:j<rs.length:=by omega
  simp[q1,mP,acn,amv,NX,pc,rW,dX,aq dX,afJ,N2,iF,-ae];refine abZ ok w.S Ni (kk:=k) (fun q hq=>?_) (by rw[eps];omega) (by simp[q3]) (by simp[q4]) (by simp) (by simp[cJ]) (by simp[iF]) (by simp) (by simp) ?_
  .rw[eps] at hq;rw[T.CY j r0 pk yq yp q hq];exact pc
  intro e2 h2 M ms K2 yE g2 acc AO oJ;rw[eps] at AO;have w2:=w.aX g2;have b1:=K2.at (t:=1) (by simp;exact q1);have b11:=K2.at (t:=11) (by simp;exact mP);have b14:ai e2 14=.int .i64 b:=K2.at (t:=14) (by simp);have aer:=K2.at (t:=102) (by simp;exact NX);obtain⟨sF2,qL⟩:=w2.hF;have yZ:=w2.Y.ll;simp[b1,b11,b14,yE];refine aF.call (V:=Pa n0 (ag+1) κ cap B rs b j (2*ms.length+1) h2) (by simpa [b1] using YE g2.ok rfl w2.S.O (by have:=w2.g.next;omega) qL w2.κF Qn Ni acc.sl (by rw[AO];omega) oJ (fun r hr=>by have:=yZ r hr;omega)) ?_;rintro v3 h3 H;obtain⟨κ3,rs3,w3⟩:=w2.lay H (fun S0=>by
   have H8:Edge.va (bx c_) b:=by
    obtain⟨rb0,af8⟩:=ay c_ b arc;rcases S0 b rb0 af8 with h|⟨h,_⟩
    .exact h
    .exfalso;rw[jy af8] at ot;cases ot;rcases T.kind rb0 (bU af8) with⟨_,h2⟩|⟨h2,_⟩|⟨h2,_⟩
     .rw[h2] at ht;simp at ht
     .omega
     .omega
   refine⟨H8,?_⟩;rw[hjt];exact H8.step ot ht)
  simp[aer,wk];refine⟨pk.length-(k+1),by omega,k+1,κ3,rs3,rfl,pc,?_,by simp,?_⟩
  .refine ax.set (ax.set ?_)
   repeat (refine ax.set ?_)
   refine ax.trans ?_ (K2.bH)
   repeat (refine ax.set ?_)
   exact K
  .have e:W+(k+1)*(2*r0.ps.length+1)=W+k*(2*r0.ps.length+1)+(2*ms.length+1):=by rw[AO,tW];omega
   rw[e];exact w3
 .have:k=pk.length:=by omega
  subst this;simp[amv,NX];refine C _ _ κ rs (ax.set K) ⟨w.g,w.hF,w.lF,w.low,w.S,⟨w.Y.len,w.Y.at_,w.Y.al,w.Y.lZ,by have:=w.Y.sum;omega,w.Y.un⟩,w.A,w.fA⟩
end
section
variable{h0 h:ab}{name:ByteArray}{p:Int}{n0 ag:Nat}{κ0 cap:Nat->Nat}{F:Nat}{B:SV}{c_:List XR}{T3:Nat}{OF:SV}{fs:List Int}{d:Nat}{ws:List SV}{j W:Nat}{κ:Nat->Nat}{rs:List XR}
theorem PS.drop{h2:ab}(w:PS h0 h name p n0 ag κ0 cap F B c_ T3 OF fs d ws j W κ rs){r:XR}(hr:rs[j]?=some r){bB:Nat}(dZ:B.a=some ⟨bB,0,none⟩)(g:aa (· =bB) h h2)(A2:fS eW h2 B (rs.set j (QS r))):PS h0 h2 name p n0 ag κ0 cap F B c_ T3 OF fs d ws (j+1) W κ (rs.set j (QS r)):=by
 have ok:=w.g.ok;have κB:κ bB=2:=w.S.O.kB bB (bC dZ);obtain⟨s,hF⟩:=w.hF;have κF:=w.κF;have κT:=w.S.κT;refine⟨w.g.trans' g (fun _ _ h=>h) (fun x hx e=>by have:=w.low x hx;rw[e] at this⊢;omega),⟨s,g.get ok hF (fun e=>by rw[e] at κF;omega)⟩,w.lF,w.low,⟨⟨(w.S.O.os.drop hr).grow ok g (fun b e=>.inr (by rw[e];exact κB)),A2,w.S.O.kB⟩,w.S.V.grow ok g (fun b hb e=>by have:=w.S.ext b (by omega);rw[hb] at this;rw[hb] at e;omega),fun x hx q hq=>?_,w.S.ext,w.S.W.grow ok g (fun e=>by rw[e] at κT;omega) (fun b hb e=>by have:=w.S.κO b hb;rw[e] at this;omega),κT,w.S.κO⟩,w.Y.drop hr,w.A.grow ok g (fun b hb e=>?_),w.fA⟩
 .rcases Em hx with h|h
  .exact w.S.pd x h q hq
  .subst h;exact(FQ hq).elim
 .obtain⟨h1,h2⟩:=w.fA b hb;have:=w.low b h1;rw[e] at this h2;omega
def LaI(h0:ab)(name:ByteArray)(p:Int)(n0 ag:Nat)(κ0 cap:Nat->Nat)(F:Nat)(B:SV)(c_:List XR)(T3:Nat)(OF:SV)(fs:List Int)(d:Nat)(ws:List SV)(v2:Value)(n:Nat)(mm:Nat)(e':Env)(h':ab):Prop:=
 ∃(j:Nat) (κ:Nat->Nat) (rs:List XR),mm=n-j/\j<=n/\ai e' 1=.pointer (some ⟨F,0,none⟩)/\ai e' 2=v2/\ai e' 3=.pointer (some ⟨T3,0,none⟩)/\ai e' 4=BW T3/\ai e' 93=.slice (some ⟨d,0,none⟩) n n/\ai e' 94=.int .i64 n/\ai e' 95=.int .i64 j/\PS h0 h' name p n0 ag κ0 cap F B c_ T3 OF fs d ws j (WB c_ j) κ rs
theorem abT(T:TF0 c_)(ajM:(c_.map eT).sum<=300)(qk:n0<=h0.next)(w:PS h0 h name p n0 ag κ0 cap F B c_ T3 OF fs d ws 0 (WB c_ 0) κ rs)(f1:ai e 1=.pointer (some ⟨F,0,none⟩))(f2:ai e 2=v2)(f3:ai e 3=.pointer (some ⟨T3,0,none⟩))(f4:ai e 4=BW T3)(f93:ai e 93=.slice (some ⟨d,0,none⟩) c_.length c_.length)(f94:ai e 94=.int .i64 c_.length)(f95:ai e 95=.int .i64 0)(C:∀e' h' κ rs,ai e' 1=.pointer (some ⟨F,0,none⟩)->ai e' 2=v2->PS h0 h' name p n0 ag κ0 cap F B c_ T3 OF fs d ws c_.length (WB c_ c_.length) κ rs->QQ (.exit 6) e' h'):az FF (.loop wh) e h QQ:=by
 have DK:=T.DK;refine az.loop (LaI h0 name p n0 ag κ0 cap F B c_ T3 OF fs d ws v2 c_.length) ?_ (n:=c_.length) ⟨0,κ,rs,rfl,by omega,f1,f2,f3,f4,f93,f94,f95,w⟩;rintro mm e' h'⟨j,κ,rs,rfl,hj,q1,q2,q3,q4,q93,q94,q95,w⟩;have ok:=w.g.ok;unfold wh;by_cases aM:j<c_.length
 .have wj:=wrap_i64 ((j:Int)+1) (by omega) (by omega);obtain⟨r0,yq⟩:=ay c_ j aM;have Cm:(Edge.bp (bx c_)).length=c_.length:=by rw[Edge.cR,ck]
  obtain⟨pk,yp⟩:=ay (Edge.bp (bx c_)) j;obtain⟨wj',hwj⟩:=ay ws j (by rw[w.A.len];omega);have DE:wj'.l=pk.length:=by obtain⟨a,cap,e,_⟩:=w.A.row j wj' pk hwj yp;simp at e;exact e.2.1
  obtain⟨sd,hd⟩:=w.A.aC;have rd:=oh hd hwj;simp[-ae] at rd;simp[q93,q94,q95,aM,rd,DE,-ae];refine UO T qk w yq hwj yp (by rw[<-R5 yq];exact ac7 ajM DK _) (by simp[q1]) (by simp[q3]) (by simp[q4]) (by simp) (by simp[DE]) (by simp) (by simp) ?_;intro e2 h2 κ2 HG K2 w2;rw[<-R5 yq] at w2;have b1:=K2.at (t:=1) (by simp;exact q1);have b2:=K2.at (t:=2) (by simp;exact q2);have b3:=K2.at (t:=3) (by simp;exact q3);have b4:=K2.at (t:=4) (by simp;exact q4);have b11:ai e2 11=.int .i64 j:=K2.at (t:=11) (by simp);have b93:=K2.at (t:=93) (by simp;exact q93);have b94:=K2.at (t:=94) (by simp;exact q94);have b95:=K2.at (t:=95) (by simp;exact q95);have cj:=w2.Y.len;obtain⟨r,hr⟩:=ay HG j;obtain⟨bB,cs,oB,sB,dZ,Ak,_,dV,_,jh⟩:=w2.S.O.A.el hr;have cV:=w2.S.O.A.len;obtain⟨sF,hF⟩:=w2.hF;have dX:=hF;simp[aj] at dX;rw[dZ,cV] at dX;have hf:=dV 0 1 (by decide);simp at hf;have afJ:j<HG.length:=by omega
  simp[b1,b11,dX,aq dX,afJ,Ak,hf,b95,wj];have gw:aa (· =bB) h2 (put h2 bB (j*6) cs [.slice none 0 0] oB):=aJ w2.g.ok Ak;have A3:=jh (QS r) 0 [.slice none 0 0] (by simp) rfl (put h2 bB (j*6) cs [.slice none 0 0] oB) ⟨_,aA _ _ _ _ _ _⟩;exact⟨c_.length-(j+1),by omega,j+1,κ2,_,rfl,aM,by simp[b1],by simp[b2],by simp[b3],by simp[b4],by simp[b93],by simp[b94],by simp,w2.drop hr dZ gw A3⟩
 .have:j=c_.length:=by omega
  subst this;simp[q94,q95];exact C _ _ κ rs (by simp[q1]) (by simp[q2]) w
end
theorem al9(O:kW h n0 ag κ cap B rs)(w:TF0 rs)(V:BVs ag rs bs)(hn:ag<1000000):Fa ag (Edge.bp (bt bs)) bs:=by
 have I:=acK O w V;have As:=V.dD;refine⟨hn,I.len,I.ahl,fun ps hp=>?_,I.ph,fun b hb=>⟨(I.li b hb).1,fun x hx=>?_⟩,I.on,fun i b hb=>⟨(I.to b (bU hb)).1,fun t ht=>⟨(I.to b (bU hb)).2 t ht,fun ps hp=>?_⟩⟩⟩
 .obtain⟨i,hi⟩:=oD hp;exact(I.row i ps hi).1
 .obtain⟨a1,a2,a3⟩:=(I.li b hb).2 x hx;obtain⟨i,hi⟩:=oD hb;obtain⟨r,hr⟩:=ay rs i (by rw[<-V.1];exact(bK.mp hi).1);have v:=V.2 i r b hr hi;obtain⟨j,hj⟩:=oD hx;obtain⟨q,hq⟩:=ay r.ls j (by rw[<-v.ll];exact(bK.mp hj).1);obtain⟨_,e2,e3⟩:=v.ls j q x hq hj;have:=w.al r (bU hr) q (bU hq);refine⟨a1,by omega,fun y hy=>?_⟩;unfold gm at hy;simp at hy;rcases hy with h|h|h
  .rw[h.2];exact a2
  .rw[h.2];exact a3
  .exact e3 y h
 .obtain⟨r,hr⟩:=ay rs i (by rw[<-V.1];exact(bK.mp hb).1);have v:=V.2 i r b hr hb;rw[As] at hp;have h2:=(Edge.mL w.nat (u:=t.toNat) (x:=(i:Int))).2 ⟨i,rfl,r.ts,jy hr,t,by rw[<-v.to];exact ht,rfl⟩;rw[hp] at h2;exact h2
section
variable{rs bD:List XR}
theorem OG.ts(w:OG rs bD):bx bD=bx rs:=by
 refine yT fun k=>?_;unfold bx;rw[tV,tV];by_cases h:k<rs.length
 .have e:rs[k]?=some rs[k]:=ff h;have e':bD[k]?=some (bD[k]'(by rw[w.len];exact h)):=ff (by rw[w.len];exact h);rw[e,e'];simp only[EF];rw[(w.at_ k _ _ e e').2.1]
 .rw[qY (by rw[w.len];omega),qY (by omega)]
theorem OG.map{β:Type}(w:OG rs bD)(f:XR->β)(hf:∀r r':XR,r'.ps=r.ps->r'.ls.length=r.ls.length->(∀φ,jG φ r'.ls=jG φ r.ls)->f r'=f r):bD.map f=rs.map f:=by
 refine yT fun k=>?_;rw[tV,tV];by_cases h:k<rs.length
 .have e:rs[k]?=some rs[k]:=ff h;have e':bD[k]?=some (bD[k]'(by rw[w.len];exact h)):=ff (by rw[w.len];exact h);rw[e,e'];simp only[EF];obtain⟨a1,_,_,a4,_,a6⟩:=w.at_ k _ _ e e';rw[hf _ _ a1 a4 a6]
 .rw[qY (by rw[w.len];omega),qY (by omega)]
theorem OG.mem(w:OG rs bD)(h:r'∈bD):∃(k:Nat) (r:XR),rs[k]?=some r/\bD[k]?=some r':=by obtain⟨k,hk⟩:=oD h;exact⟨k,_,ff (by rw[<-w.len];exact(bK.mp hk).1),hk⟩
theorem OG.size(w:OG rs bD):bD.map eT=rs.map eT:=w.map eT fun r r' h1 h2 _=>by unfold eT;rw[h1,h2]
theorem OG.lZ(w:OG rs bD)(φ:Sh->Bool):gO φ bD=gO φ rs:=by unfold gO;rw[w.map (fun r:XR=>jG φ r.ls) fun r r' _ _ h3=>h3 φ]
theorem OG.tf(w:OG rs bD)(T:TF0 rs):TF0 bD:=by
 refine⟨by rw[w.len];exact T.n1,by rw[w.len];exact T.DK,fun r hr=>?_,fun r hr t ht=>?_,fun k r hr q hq=>?_,by rw[w.size];exact T.sum,fun r hr=>?_,fun k hk=>?_⟩
 .obtain⟨k,r0,h1,h2⟩:=w.mem hr;obtain⟨_,a2,a3,_⟩:=w.at_ k r0 r h1 h2;have:=T.kind r0 (bU h1);unfold Ts at*;rw[a2,a3];exact this
 .obtain⟨k,r0,h1,h2⟩:=w.mem hr;obtain⟨_,a2,_⟩:=w.at_ k r0 r h1 h2;rw[a2] at ht;rw[w.len];exact T.to r0 (bU h1) t ht
 .obtain⟨r0,h0⟩:=ay rs k (by rw[<-w.len];exact(bK.mp hr).1);obtain⟨a1,_⟩:=w.at_ k r0 r h0 hr;rw[a1] at hq;rw[w.ts,w.len];exact T.rows k r0 h0 q hq
 .obtain⟨k,r0,h1,h2⟩:=w.mem hr;exact(w.at_ k r0 r h1 h2).2.2.2.2.1
 .rw[w.ts,w.len];exact T.short k (by rw[<-w.len];exact hk)
theorem OG.seen(w:OG rs bD)(S:Seen rs):Seen bD:=by
 intro k r hr;obtain⟨r0,h0⟩:=ay rs k (by rw[<-w.len];exact(bK.mp hr).1);obtain⟨a1,_,a3,a4,_⟩:=w.at_ k r0 r h0 hr;rw[w.ts];rcases S k r0 h0 with h|⟨h1,h2,h3⟩
 .exact .inl h
 .refine .inr ⟨by rw[a3];exact h1,by rw[a1];exact h2,?_⟩;rw[h3] at a4;exact IX a4
end
def ao7(ag:Nat)(rs:List XR)(many:Nat)(bD:List XR):Prop:=many<=ag+1/\∀c:Int,c≠1->gO (fun s=>s.1==c) bD=gO (fun s=>s.1==c) rs
theorem QT(ok:bl h){name:ByteArray}{p n0 ag:Nat}(qk:n0<=h.next)(O:kW h n0 ag κ0 sH B rs)(T:TF0 rs)(T2:Two rs)(S:Seen rs)(h24:rs.length<=24)(ajM:(rs.map eT).sum<=300)(hp:p<=ag)(Es:ag<700000):aE FF Ay [.agg ⟨aj name p ag B⟩] h (RX (ao7 ag rs) name p n0 κ0 h):=by
 have κhi:∀b,h.next<=b->κ0 b=0:=fun b hb=>by
  rcases uM (κ0 b) with h1|h1
  .exact h1
  .have:=(O.os.new b (by omega)).2;omega
 have n1:¬h.next=h.next+1:=by omega
 refine aE.of Px ?_;unfold Fo;simp[aj,n1];refine aF.cut (fun h1=>aa aG h h1/\(∃s,h1.tr.get h.next=some (.aC (aj name p ag B) false 0 s))/\∃s,h1.tr.get (h.next+1)=some (.aC [.string ⟨⟨[]⟩⟩,.int .i64 0,.int .i64 0,.slice none 0 0] false 0 s)) ?_ ?_
 .exact⟨((aa.refl ok).new _ _).new _ _,⟨0,by simp[n1,aj]⟩,0,by simp⟩
 rintro h1⟨g1,⟨sF,ta⟩,sR,yV⟩;have lR:=g1.ok.wf _ _ yV;have l1:=g1.next;refine aF.call (V:=WQ name p ag n0 ag κ0 rs h1) (by simpa [aj] using LD g1.ok (name:=name) (p:=p) (rg:=ag) (by omega) (O.aX ok g1) T T2 h24) ?_;rintro _ h2⟨g2,B2,HG,κ2,J8,rfl,YJ,O2,T22,_,apT,amS,axJ⟩;have κF0:κ0 h.next=0:=κhi _ (dH _);have κR0:κ0 (h.next+1)=0:=κhi _ (by omega);have κF2:κ2 h.next=0:=by rw[YJ _ (by omega)];exact κF0
 have κR2:κ2 (h.next+1)=0:=by rw[YJ _ (by omega)];exact κR0
 have dX:=g2.get g1.ok ta (fun e=>e κF0);have Du:=g2.get g1.ok yV (fun e=>e κR0);have l2:=g2.next;simp[aj] at dX;simp[aj,dX];refine aF.cut (fun h3=>aa (· =h.next) h2 h3/\∃s,h3.tr.get h.next=some (.aC (aj name p ag B2) false 0 s)) ?_ ?_
 .exact⟨aJ g2.ok dX,h2.clock,by simp[aj,aR]⟩
 rintro h3⟨g3,sF3,qL⟩;have l3:=g3.next;have O3:=O2.grow g2.ok g3 (fun b e=>by rw[e];exact κF2);have Ky:=g3.get g2.ok Du (by omega);obtain⟨bs,Ia,V⟩:=O3.view;have E:=V.ends T22.tok;have I:=al9 O3 T22 V (by omega);have n72:=T22.DK;have n01:=T22.n1;have hph:∀b∈bs,b.dk.length<100000:=fun b hb=>by obtain⟨i,hi⟩:=oD hb;obtain⟨r,hr⟩:=ay HG i (by rw[<-V.1];exact(bK.mp hi).1);rw[(V.2 i r b hr hi).pl];have:=EK (f:=eT) (bU hr);have e:eT r=r.ps.length+r.ls.length:=rfl;omega
 refine aF.call (V:=Wz ag h3) (by simpa [aj] using FB g3.ok (name:=name) (pn:=p) Ia E I (by rw[V.1];exact n01) (by omega) hp hph) ?_;rintro _ h4⟨g4,OF,fs,rfl,A4,fl,frg,fO⟩;have l4:=g4.next;have zt:=g4.get g3.ok qL;have Ue:=g4.get g3.ok Ky;have Qa:=zt;simp[aj] at Qa;have lF:=g4.ok.wf _ _ zt;have nT:¬h.next=h4.next:=by omega
 have oF:=g4.ok.bE zt;simp[Qa,nT,oF,-ae,bj,aN,aq Qa];refine az.cut (fun h5=>aa aG h4 h5/\∃s,h5.tr.get h4.next=some (.aC [OF.v] false 0 s)) ?_ ?_
 .exact⟨(aa.refl g4.ok).var _ _,h4.clock,by simp[aR]⟩
 rintro h5⟨g5,hT5⟩;have l5:=g5.next;have κhi2:∀b,h2.next<=b->κ2 b=0:=fun b hb=>by
  rcases uM (κ2 b) with h1|h1
  .exact h1
  .have:=(O2.os.new b (by omega)).2;omega
 have g35:=g4.trans g5;have OL:=g5.get g4.ok zt;have HB:=g5.get g4.ok Ue;have FR5:FR h5 n0 ag κ2 J8 B2 HG h4.next OF fs:=⟨O3.aX g3.ok g35,⟨hT5,A4.aX g4.ok g5,fl,frg⟩,κhi2 _ (by omega),fun b hb=>κhi2 b (by have:=fO b hb;omega)⟩;have aqm:=O2.A.len;refine U2 g5.ok FR5 T22 OL κF2 (v2:=.pointer (some ⟨h.next+1,0,none⟩)) (by simp) (by simp) (by simp) (by simp[BW]) (by simp) (by simp[aqm]) (by simp) ?_;intro e6 h6 rs6 q1 q2 q3 q4 g6 FR6 RN;have T6:=RN.tf T22;have l6:=g6.next;have hF6:=g6.get g5.ok OL (fun e=>e κF2);have OM:=g6.get g5.ok HB (fun e=>e κR2);have ajY:=hF6;simp[aj] at ajY;simp[q1,ajY];refine aF.call (V:=AhQ rs6 h6) (by simpa [aj] using Iw (name:=name) (p:=p) (rg:=ag) g6.ok FR6.O T6) ?_;rintro _ h7⟨g7,d,ws,rfl,W7⟩;have l7:=g7.next;have FR7:=FR6.aX g6.ok g7;have hF7:=g7.get g6.ok hF6;have hR7:=g7.get g6.ok OM;have lF7:=g7.ok.wf _ _ hF7;have fA:∀b,RAb d ws b->b<h7.next/\κ2 b=0:=by
  rintro b (rfl|⟨w,hw,hb⟩)
  .obtain⟨s,hd⟩:=W7.aC;exact⟨g7.ok.wf _ _ hd,κhi2 b (by have:=W7.new;omega)⟩
  .obtain⟨i,hi⟩:=oD hw;obtain⟨xs,Ew⟩:=ay (Edge.bp (bx rs6)) i (by rw[<-W7.len];exact(bK.mp hi).1);have A:=W7.acc i w xs hi Ew;exact⟨(bJ.arr A).bE g7.ok hb,κhi2 b (by have:=A.of hb;omega)⟩
 have P7:PS h7 h7 name p n0 ag κ2 J8 h.next B2 rs6 h4.next OF fs d ws 0 (WB rs6 0) κ2 rs6:=
  ⟨.refl g7.ok,⟨_,hF7⟩,⟨lF7,κF2⟩,fun _ _=>rfl,⟨FR7.O.wider,FR7.O.os.V,fun r hr q hq=>by obtain⟨i,hi⟩:=oD hr;exact(FR7.O.os.r i r hi).ps q hq,fun _ _=>rfl,FR7.W,FR7.κT,FR7.κO⟩,Hy.start T6,RA.of W7,fA⟩
 have adi:(rs6.map eT).sum<=300:=by rw[RN.size];omega
 simp;refine abT T6 adi (by omega) P7 (v2:=.pointer (some ⟨h.next+1,0,none⟩)) (by simp[q1]) (by simp[q2]) (by simp[q3]) (by simp[q4]) (by simp) (by simp) (by simp) ?_;intro e8 h8 κ8 rs8 z1 z2 P8;have l8:=P8.g.next;have T8:=P8.Y.tf T6 (by have:=ac7 adi T6.DK rs6.length;omega);have hR8:=P8.g.get g7.ok hR7 (fun e=>e κR2);have κF8:=P8.κF;have κR8:κ8 (h.next+1)=0:=by rw[P8.low _ (by omega)];exact κR2
 obtain⟨sF8,hF8⟩:=P8.hF;have wr:=wrap_i64 ((ag:Int)+1) (by omega) (by omega);have Uc:=hF8;simp[aj] at Uc;simp[z1,Uc,wr];refine aF.cut (fun h9=>aa (· =h.next) h8 h9/\∃s,h9.tr.get h.next=some (.aC (aj name p ((ag+1:Nat):Int) B2) false 0 s)) ?_ ?_
 .exact⟨aJ P8.g.ok Uc,h8.clock,by simp[aj,aR]⟩
 rintro h9⟨g9,sF9,hF9⟩;have l9:=g9.next;have hR9:=g9.get P8.g.ok hR8 (by omega);have O9:=P8.S.O.grow P8.g.ok g9 (fun b e=>by rw[e];exact κF8);refine aF.call (V:=ac5 name p n0 (ag+1) κ8 rs8 h9) (by simpa [aj] using VG g9.ok (name:=name) (by omega) O9 T8 (by omega) (by omega)) ?_;rintro _ Aj⟨yl,B10,aul,κ10,ajj,many,rfl,alh,adS,O10,arO,asE,arl⟩;have aj9:=yl.get g9.ok hR9 (fun e=>e κR8);have κR10:κ10 (h.next+1)=0:=by rw[adS _ (by omega)];exact κR8
 simp[aj,z2,aj9];have ED:=aJ (off:=0) (vs:=[Value.string name,.int .i64 p,.int .i64 many,.slice B10.a B10.l B10.c]) yl.ok aj9;have y2:aa (fun x=>κ0 x≠0) h h3:=(g1.trans' g2 (fun _ _ h=>h.elim) (fun x hx e=>e)).trans' g3 (fun _ _ h=>h) (fun x hx e=>by omega);have y6:aa (fun x=>κ0 x≠0) h h6:=(y2.trans g35.aX).trans' g6 (fun _ _ h=>h) (fun x hx e=>by rw[YJ x (by omega)] at e;exact e);have y8:aa (fun x=>κ0 x≠0) h h8:=(y6.trans g7.aX).trans' P8.g (fun _ _ h=>h) (fun x hx e=>by rw[YJ x (by omega)] at e;exact e);have y9:aa (fun x=>κ0 x≠0) h h9:=y8.trans' g9 (fun _ _ h=>h) (fun x hx e=>by omega);have al8:∀x,x<h.next->κ8 x=κ0 x:=fun x hx=>by rw[P8.low x (by omega),YJ x (by omega)]
 have y10:aa (fun x=>κ0 x≠0) h Aj:=y9.trans' yl (fun _ _ h=>h) (fun x hx e=>by rw[al8 x hx] at e;exact e);refine⟨y10.trans' ED (fun _ _ h=>h) (fun x hx e=>by omega),B10,aul,κ10,ajj,ag+1,many,by simp[aj],fun x hx=>by rw[adS x (by omega),al8 x hx],O10.grow yl.ok ED (fun x e=>by rw[e];exact κR10),arO.2,asE,alh,fun c hc=>?_⟩;rw[(arl _).2 (P8.Y.seen (RN.seen (amS S))),P8.Y.lZ c hc,RN.lZ,apT]
section
variable{S d m:Nat}{name:ByteArray}{p r:Int}{B AH:SV}{n0 ag:Nat}{κ0 cap:Nat->Nat}{rs:List XR}{fx:List (Int×Int)}
end
theorem Z4(F:mY f)(R:Pd rs f.blocks):Two rs:=by
 intro r hr h3;obtain⟨b,hb,rd⟩:=R.mem hr;rw[rd.kind] at h3;rw[rd.to];rcases(F.body.ends b hb).kind with⟨e,_⟩|⟨e,_⟩|⟨_,t,u,e,ct⟩
 .omega
 .omega
 .exact⟨t,u,e,ct⟩
def DoQ(P:C4)(u:GU)(h:ab)(v:Value)(h':ab):Prop:=
 aa aG h h'/\∃(G' F':SV) (c a:Int),v=.tuple #[.agg ⟨[G'.v,F'.v]⟩,.agg ⟨[.int .i64 c,.int .i64 a]⟩]/\((c≠0/\G'=cJ/\F'=cJ)\/(c=0/\Ff u/\∃M ys zs,fS FJ h' G' ys/\Ma ys u.globals/\fS Bs h' F' zs/\zs.length=u.funcs.length/\∀(i:Nat)(z:XF)(f:GF),zs[i]?=some z->u.funcs[i]?=some f->AV M P h' z f))
def OuP:C4:=fun f many rs=>(many:Int)<=f.ag+1/\∀c:Int,c≠1->gO (fun s=>s.1==c) rs=FD (fun s=>s.1==c) f.blocks
theorem VE(F:mY f)(R:Pd rs f.blocks):(rs.map eT).sum<=300:=by rw[R.map eT (fun b=>b.dk.length+b.list.length) (fun r b rd=>by simp only[eT];rw[rd.pl,rd.ll]),<-CP];have:=F.head.many;omega
theorem YW(ok:bl h)(hw:D9 h){G F:SV}{u:GU}(hu:uR h G F u)(sm:Cr u)(hL:∀f∈u.funcs,E8 f):aE FF NJ [.agg ⟨[G.v,F.v]⟩] h (DoQ OuP u h):=by
 refine aE.of W0 ?_;unfold Md;have e1:¬h.next=h.next+1:=by omega
 have e2:¬h.next=h.next+1+1:=by omega
 simp[e1,e2];refine aF.cut (fun h1=>aa aG h h1/\(∃s,h1.tr.get h.next=some (.aC [G.v,F.v] false 0 s))/\(∃s,h1.tr.get (h.next+1)=some (.aC [.slice none 0 0,.slice none 0 0] false 0 s))/\(∃s,h1.tr.get (h.next+1+1)=some (.aC [.int .i64 0,.int .i64 0] false 0 s))) ?_ ?_
 .exact⟨(((aa.refl ok).new _ _).new _ _).new _ _,⟨0,by simp[e1,e2]⟩,⟨0,by simp⟩,⟨0,by simp⟩⟩
 rintro h1⟨g1,⟨sU,hU1⟩,⟨s1,XA⟩,⟨s2,hB1⟩⟩;refine aF.call (V:=EZ (Ff u) h1) (by simpa using Og g1.ok (hw.grow ok g1) (hu.mono ok g1) sm) ?_;rintro _ h2⟨g2,c,a,rfl,hc⟩;have jd:=g1.trans g2;have yo:=g2.get g1.ok hU1;have MW:=g2.get g1.ok XA;have P5:=g2.get g1.ok hB1;have lB:=g1.ok.wf _ _ hB1;have l2:=g2.next;have nAB:¬h.next+1+1=h.next+1:=by omega
 have nBA:¬h.next+1=h.next+1+1:=by omega
 rcases hc with hc|⟨rfl,rfl,hS⟩
 .have OO:(c==0)=false:=by simp[hc]
  have nA2:¬h.next+1=h2.next:=by omega
  have nB2:¬h.next+1+1=h2.next:=by omega
  have atr:¬h2.next=h.next+1:=by omega
  have atu:¬h2.next=h.next+1+1:=by omega
  simp[OO,MW,P5,nA2,nB2,atr,atu,nAB,nBA,au,aB];have g3:aa aG h (tick (put (aD h2 [.int .i64 0,.int .i64 0] 0) h2.next 0 [.int .i64 0,.int .i64 0] [.int .i64 c,.int .i64 a] 0)):=(jd.var _ _).tick;exact⟨(g3.put ⟨s1,by simp[MW,nA2]⟩ (.inl (by omega))).put ⟨s2,by simp[P5,nB2,nAB]⟩ (.inl (by omega)),cJ,cJ,c,a,rfl,.inl ⟨hc,rfl,rfl⟩⟩
 .have Kz:=yo;simp at Kz;have nU:¬h.next=h2.next:=by omega
  simp[Kz,nU];refine aF.cut (fun h3=>aa aG h2 h3) ((aa.refl g2.ok).var _ _) ?_;intro h3 g3;have dw:=jd.trans g3;have C:aoN u.globals:=⟨hS.unit.gn,fun g hg=>⟨(hS.unit.gs g hg).1,(hS.unit.gs g hg).2.1⟩⟩;have Ds:=g3.get g2.ok MW;have hB5:=g3.get g2.ok P5;refine aF.call (V:=acZ OuP u.globals u.funcs h3) (by simpa using TV (P:=OuP) (fv:=.func (.func Ay) #[] #[]) dw.ok (hu.mono ok dw) C.1 (fun g hg=>by have:=(hS.unit.gs g hg).2;omega) hS.unit.fn (fun f hf=>⟨hS.form f hf,hL f hf,hS.seen f hf⟩) (fun f hf h1 pn n0 ag κ cap B rs a1 a2 a3 a4 a5 a6 a7 a8 a9 a10=>by have TT:=acN (hS.form f hf) (hL f hf) (hS.seen f hf) a10;have Es:=(hS.form f hf).head.ag;have K:=QT a1 (name:=f.name) a3 a9 TT.toTF0 (Z4 (hS.form f hf) a10) TT.seen (by rw[a10.1];exact(hL f hf).1) (VE (hS.form f hf) a10) a7 (by omega);refine cP.func ?_;refine K.mono (fun v h' q=>?_);obtain⟨q1,B',bD,κ',iN,amI,many,q2,q3,q4,q5,q6,q7,q8⟩:=q;exact⟨q1,B',bD,κ',iN,amI,many,q2,q3,q4,q5,q6,by omega,fun c hc=>by rw[q8 c hc,Xc a10]⟩)) ?_
  rintro _ h6⟨g6,G',F',c,a,rfl,hc⟩;have XB:=g6.get g3.ok Ds;have hB6:=g6.get g3.ok hB5;simp[XB,hB6,nAB,nBA];have gw:=((aa.refl g6.ok).put (S:=fun x=>x=h.next+1\/x=h.next+1+1) (off:=0) (vs:=[Value.slice G'.a G'.l G'.c,Value.slice F'.a F'.l F'.c]) ⟨_,XB⟩ (.inr (.inl rfl))).put (b:=h.next+1+1) (off:=0) (cs:=[.int .i64 0,.int .i64 0]) (o:=0) (vs:=[.int .i64 c,.int .i64 a]) ⟨s2,by simp[hB6]⟩ (.inr (.inr rfl));generalize put (put h6 _ _ _ _ _) _ _ _ _ _=h7 at gw⊢;have l6:h.next+1+1<h3.next:=g3.ok.wf _ _ hB5;refine⟨(dw.trans g6).trans' gw (fun _ _ h=>h) (fun x hx e=>by omega),G',F',c,a,by simp,?_⟩;rcases hc with hc|⟨hc,N,M,ys,zs,hM,A1,A2,A3,A4,A5⟩
  .exact .inl hc
  .exact .inr ⟨hc,hS,M,ys,zs,A1.grow g6.ok gw (fun b hb e=>by have:=N b (.inl hb);omega),A2,A3.grow g6.ok gw (fun b hb e=>by have:=N b (.inr hb);omega),A4,fun i z f a b=>(A5 i z f a b).grow g6.ok gw (fun x e=>.inl (by omega))⟩
def UJ(c:Int):Sh->Bool:=fun s=>s.1==c
def opG(c:Int)(xs:List GI):Nat:=MG (UJ c) xs
def LX(c:Int)(bs:List GB):Nat:=FD (UJ c) bs
def OS(c:Int)(fs:List GF):Nat:=(fs.map fun f=>LX c f.blocks).sum
theorem Y0{xs:List GI}{x:GI}(h:xs[j]?=some x):opG c (xs.take (j+1))=opG c (xs.take j)+(if x.op=c then 1 else 0):=by unfold opG MG;rw[yS,h,List.filter_append,IZ];have e:UJ c (shG x)=(x.op==c):=rfl;by_cases hq:x.op=c<;>simp[e,hq]
theorem agQ(c:Int)(xs:List GI)(j:Nat):opG c (xs.take j)<=xs.length:=xf (Xs _ _) (by simp;omega)
theorem YY{b:GB}(h:bs[j]?=some b):LX c (bs.take (j+1))=LX c (bs.take j)+opG c b.list:=by unfold LX FD opG;rw[yS,h];simp
theorem YZ{fs:List GF}(h:fs[j]?=some f):OS c (fs.take (j+1))=OS c (fs.take j)+LX c f.blocks:=by unfold OS;rw[yS,h];simp
theorem YX(h1:bs.length<=1000)(h2:∀b∈bs,b.list.length<=1000000)(j:Nat):LX c (bs.take j)<=1000000000:=by
 have:=Rl (f:=fun b:GB=>MG (UJ c) b.list) (k:=1000000) (l:=bs.take j) (fun b hb=>xf (Xs _ _) (h2 b (gQ_ hb)));have hl:(bs.take j).length<=1000:=by simp;omega
 have:=FW 1000000 hl;unfold LX FD;omega
theorem agP{fs:List GF}(C:Tq fs)(j:Nat):OS c (fs.take j)<=1000000000000:=by
 have:=Rl (f:=fun f:GF=>LX c f.blocks) (k:=1000000000) (l:=fs.take j) (fun f hf=>by have hm:=gQ_ hf;have:=YX (c:=c) (C.b f hm) (C.l f hm) f.blocks.length;rw[xK] at this;exact this)
 have hl:(fs.take j).length<=1000:=by have:=C.f;simp;omega
 have:=FW 1000000000 hl;unfold OS;omega
def OpL:List Nat:=[5,8]++(List.range 33).map (· +27)
def ao2(h1:ab)(c:Int)(n:Nat)(xs:List GI)(e:Env)(m:Nat)(e':Env)(h':ab):Prop:=
 ∃j:Nat,m=xs.length-j/\j<=xs.length/\ax OpL e e'/\ai e' 5=.int .i64 ((n+opG c (xs.take j):Nat):Int)/\ai e' 8=.int .i64 j/\aa aG h1 h'
theorem Y8(ok:bl h)(g1:aa aG h h1){G F:SV}{fs:List GF}(hF:SliceR (fR h) 4 h F.v fs)(hU:h1.tr.get U=some (.aC [G.v,F.v] false 0 sU)){b:GB}(hk:fs[k]?=some f)(hm:f.blocks[m]?=some b)(hl:b.list.length<=1000000)(hn:n<=2000000000000)(f1:ai e 1=.int .i64 c)(f2:ai e 2=.pointer (some ⟨U,0,none⟩))(f5:ai e 5=.int .i64 n)(f6:ai e 6=.int .i64 k)(f7:ai e 7=.int .i64 m)(f8:ai e 8=.int .i64 0)(C:∀e' h',ax OpL e e'->ai e' 5=.int .i64 ((n+opG c b.list:Nat):Int)->aa aG h1 h'->QQ (.exit 4) e' h'):az FF (.loop lH) e h1 QQ:=by
 have qi:=SliceR.len hF;refine az.loop (ao2 h1 c n b.list e) ?_ (n:=b.list.length) ⟨0,rfl,by omega,ax.refl _ _,by simpa [opG,MG] using f5,f8,.refl g1.ok⟩;rintro i e' h'⟨j,rfl,hj,K,q5,q8,g⟩;have q1:=K.at (t:=1) f1;have q2:=K.at (t:=2) f2;have q6:=K.at (t:=6) f6;have q7:=K.at (t:=7) f7;have cw:=g.ok;have gg:=g1.trans g;obtain⟨bF,aml,cF,zu,pc,_,⟨B,rfl,sB⟩,oF,hrdF⟩:=SliceR.later ok hF hk;obtain⟨bB,GJ,cB,dZ,AO,_,⟨P,L,T,rfl,sP,sL,sT⟩,oB,hrdB⟩:=SliceR.later ok sB hm;have cV:=SliceR.len sB;have tc:=SliceR.len sL;have rF:=hrdF h' gg 3 1 (by decide);have rB:=hrdB h' gg 1 1 (by decide);have Am:=g.get g1.ok hU;simp at Am;rw[zu,qi] at Am;simp[-ae] at rF rB;rw[dZ,cV] at rF;rw[tc] at rB;unfold lH;by_cases aM:j<b.list.length
 .have wj:=wrap_i64 ((j:Int)+1) (by omega) (by omega);obtain⟨x,hx⟩:=ay b.list j aM;obtain⟨bL,offL,cL,hLa,_,_,⟨A,rfl,sA⟩,oL,hrdL⟩:=SliceR.later ok sL hx;have rL:=hrdL h' gg 0 1 (by decide);simp[-ae,aK] at rL;rw[hLa] at rB;have hle:=agQ c b.list j;have Uz:=Y0 (c:=c) hx;by_cases hq:x.op=c
  .rw[aY hq] at Uz;have w5:=wrap_i64 (((n+opG c (b.list.take j):Nat):Int)+1) (by omega) (by omega);simp only[Int.natCast_add] at w5 q5;simp[q1,q2,q5,q6,q7,q8,Am,aq Am,pc,rF,AO,rB,aM,rL,hq,wj,w5,-ae];refine⟨b.list.length-(j+1),by omega,j+1,rfl,aM,?_,?_,by simp,g⟩
   .repeat (refine ax.set ?_)
    exact K
   .simp;rw[Uz];simp only[Int.natCast_add];omega
  .rw[bc hq] at Uz;simp[q1,q2,q6,q7,q8,Am,aq Am,pc,rF,AO,rB,aM,rL,hq,wj,-ae];refine⟨b.list.length-(j+1),by omega,j+1,rfl,aM,?_,by simp[q5,Uz],by simp,g⟩
   repeat (refine ax.set ?_)
   exact K
 .have:j=b.list.length:=by omega
  subst this;rw[xK] at q5;simp[q2,q6,q7,q8,Am,aq Am,pc,rF,AO,rB,-ae];refine C _ _ ?_ (by simpa using q5) g
  repeat (refine ax.set ?_)
  exact K
def ao3(h1:ab)(U:Nat)(c:Int)(k n:Nat)(bs:List GB)(m:Nat)(e':Env)(h':ab):Prop:=
 ∃j:Nat,m=bs.length-j/\j<=bs.length/\ai e' 1=.int .i64 c/\ai e' 2=.pointer (some ⟨U,0,none⟩)/\ai e' 5=.int .i64 ((n+LX c (bs.take j):Nat):Int)/\ai e' 6=.int .i64 k/\ai e' 7=.int .i64 j/\aa aG h1 h'
theorem QZ(ok:bl h)(g1:aa aG h h1){G F:SV}{fs:List GF}(hF:SliceR (fR h) 4 h F.v fs)(hU:h1.tr.get U=some (.aC [G.v,F.v] false 0 sU))(hk:fs[k]?=some f)(hb:f.blocks.length<=1000)(hl:∀b∈f.blocks,b.list.length<=1000000)(hn:n<=1000000000000)(f1:ai e 1=.int .i64 c)(f2:ai e 2=.pointer (some ⟨U,0,none⟩))(f5:ai e 5=.int .i64 n)(f6:ai e 6=.int .i64 k)(f7:ai e 7=.int .i64 0)(C:∀e' h',ai e' 1=.int .i64 c->ai e' 2=.pointer (some ⟨U,0,none⟩)->ai e' 5=.int .i64 ((n+LX c f.blocks:Nat):Int)->ai e' 6=.int .i64 k->aa aG h1 h'->QQ (.exit 2) e' h'):az FF (.loop lJ) e h1 QQ:=by
 have qi:=SliceR.len hF;refine az.loop (ao3 h1 U c k n f.blocks) ?_ (n:=f.blocks.length) ⟨0,rfl,by omega,f1,f2,by simpa [LX,FD] using f5,f6,f7,.refl g1.ok⟩;rintro i e' h'⟨j,rfl,hj,q1,q2,q5,q6,q7,g⟩;have cw:=g.ok;have gg:=g1.trans g;obtain⟨bF,aml,cF,zu,pc,_,⟨B,rfl,sB⟩,oF,hrdF⟩:=SliceR.later ok hF hk;have cV:=SliceR.len sB;have rF:=hrdF h' gg 3 1 (by decide);have hU0:=g.get g1.ok hU;have Am:=hU0;simp at Am;rw[zu,qi] at Am;simp[-ae] at rF;rw[cV] at rF;unfold lJ;by_cases aM:j<f.blocks.length
 .have wj:=wrap_i64 ((j:Int)+1) (by omega) (by omega);obtain⟨b,XL⟩:=ay f.blocks j aM;have hle:=YX (c:=c) hb hl j;have Uz:=YY (c:=c) XL;simp[q2,q6,q7,Am,aq Am,pc,rF,aM,-ae];refine Y8 ok gg hF hU0 hk XL (hl b (bU XL)) (n:=n+LX c (f.blocks.take j)) (c:=c) (by omega) (by simp[q1]) (by simp[q2]) (by simp[q5]) (by simp[q6]) (by simp[q7]) (by simp) ?_;intro e3 h3 K3 k5 g3;have k7:=K3.at (t:=7) (by simp;exact q7);simp[k7,wj];refine⟨f.blocks.length-(j+1),by omega,j+1,rfl,aM,by simpa using K3.at (t:=1) (by simp;exact q1),by simpa using K3.at (t:=2) (by simp;exact q2),?_,by simpa using K3.at (t:=6) (by simp;exact q6),by simp,g.trans g3⟩;rw[Uz];simp[k5];omega
 .have:j=f.blocks.length:=by omega
  subst this;rw[xK] at q5;simp[q2,q6,q7,Am,aq Am,pc,rF,-ae];exact C _ _ (by simp[q1]) (by simp[q2]) (by simpa using q5) (by simp[q6]) g
def ao4(h1:ab)(U:Nat)(c:Int)(fs:List GF)(m:Nat)(e':Env)(h':ab):Prop:=
 ∃j:Nat,m=fs.length-j/\j<=fs.length/\ai e' 1=.int .i64 c/\ai e' 2=.pointer (some ⟨U,0,none⟩)/\ai e' 5=.int .i64 ((OS c (fs.take j):Nat):Int)/\ai e' 6=.int .i64 j/\aa aG h1 h'
theorem NP(ok:bl h){G F:SV}{fs:List GF}(hF:SliceR (fR h) 4 h F.v fs)(Cf:Tq fs)(c:Int):aE FF uz [.agg ⟨[G.v,F.v]⟩,.int .i64 c] h (fun v h'=>aa aG h h'/\v=.int .i64 ((OS c fs:Nat):Int)):=by
 have qi:=SliceR.len hF;have mV:=Cf.f;refine aE.of Bo ?_;unfold ug;simp;refine az.cut (fun h1=>aa aG h h1/\∃s,h1.tr.get h.next=some (.aC [G.v,F.v] false 0 s)) ⟨(aa.refl ok).new _ _,0,by simp⟩ ?_;rintro h1⟨g1,sU,hU⟩;refine az.loop (ao4 h1 h.next c fs) ?_ (n:=fs.length) ⟨0,rfl,by omega,by simp,by simp,by simp[OS],by simp,.refl g1.ok⟩;rintro i e' h'⟨j,rfl,hj,q1,q2,q5,q6,g⟩;have cw:=g.ok;have hU0:=g.get g1.ok hU;have Am:=hU0;simp at Am;rw[qi] at Am;unfold qS;by_cases aM:j<fs.length
 .have wj:=wrap_i64 ((j:Int)+1) (by omega) (by omega);obtain⟨f,hfj⟩:=ay fs j aM;have hm:=bU hfj;have Uz:=YZ (c:=c) hfj;have hle:=agP (c:=c) Cf j;simp[q2,q6,Am,aM];refine QZ ok (g1.trans g) hF hU0 hfj (Cf.b f hm) (Cf.l f hm) (n:=OS c (fs.take j)) (c:=c) hle (by simp[q1]) (by simp[q2]) (by simp[q5]) (by simp[q6]) (by simp) ?_;intro e3 h3 k1 k2 k5 k6 g3;simp[k6,wj];refine⟨fs.length-(j+1),by omega,j+1,rfl,aM,by simp[k1],by simp[k2],?_,by simp,g.trans g3⟩;rw[Uz];simp[k5]
 .have:j=fs.length:=by omega
  subst this;rw[xK] at q5;simp[q2,q5,q6,Am];exact g1.trans g
theorem Xe(V:BVs ag rs bs)(φ:Sh->Bool):FD φ bs=gO φ rs:=by
 unfold gO FD;congr 1;refine yT fun i=>?_;rw[tV,tV];rcases Ae i rs.length with hi|hi
 .obtain⟨r,hr⟩:=ay rs i hi;obtain⟨b,hb⟩:=ay bs i (by rw[V.1];exact hi);have v:=V.2 i r b hr hb;rw[hr,hb];simp only[EF];rw[Bp];unfold MG;have:r.ls.map shX=b.list.map shG:=by
   refine yT fun j=>?_;rw[tV,tV];rcases Ae j r.ls.length with hj|hj
   .obtain⟨q,hq⟩:=ay r.ls j hj;obtain⟨p,hp⟩:=ay b.list j (by rw[v.ll];exact hj);rw[hq,hp];simp only[EF];rw[S_ (v.ls j q p hq hp).1]
   .rw[qY hj,qY (by rw[v.ll];exact hj)];rfl
  rw[this,List.filter_map,gU_];rfl
 .rw[qY hi,qY (by rw[V.1];exact hi)];rfl
theorem LF{α:Type}(f:α->Nat):∀(xs ys:List α),xs.length=ys.length->(∀(i:Nat)(x y:α),xs[i]?=some x->ys[i]?=some y->f x<=f y)->(xs.map f).sum<=(ys.map f).sum
 |[],[],_,_=>dH _
 |[],_::_,h,_=>by simp at h
 |_::_,[],h,_=>by simp at h
 |x::xs,y::ys,h,H=>by have h0:=H 0 x y rfl rfl;have h1:=LF f xs ys (by simpa using h) (fun i a b p q=>H (i+1) a b p q);simp only[IV,OI];omega
theorem Xd{u:GU}(S:Ff u):Tq u.funcs:=by refine⟨by have:=S.unit.fn;omega,fun f hf=>by have:=(S.form f hf).head.blocks;omega,fun f hf b hb=>?_⟩;have:=pf hb;have:=(S.form f hf).head.many;omega
theorem PR{M:Nat}{zs:List XF}{fs:List GF}(hF:fS Bs h F' zs)(hl:zs.length=fs.length)(D:∀(i:Nat)(z:XF)(f:GF),zs[i]?=some z->fs[i]?=some f->AV M OuP h z f)(Aj:fs.length<=10):∃Ad:List GF,Ad.length=fs.length/\SliceR (fR h) 4 h F'.v Ad/\Tq Ad/\(∀(i:Nat)(g f:GF),Ad[i]?=some g->fs[i]?=some f->g.ag<=f.ag+1)/\∀c:Int,c≠1->OS c Ad=OS c fs:=by
 obtain⟨Ad,Ga,H⟩:=tj (Q:=fun(i:Nat) (g:GF)=>∀z f,zs[i]?=some z->fs[i]?=some f->fR h (Bs.enc z) g/\(g.ag<=f.ag+1/\∀c:Int,c≠1->LX c g.blocks=LX c f.blocks)/\g.blocks.length<=72/\∀b∈g.blocks,b.list.length<=100000) (List.range fs.length) (fun i hi=>by
  have fu:i<fs.length:=PY.1 hi;obtain⟨z,hz⟩:=ay zs i;obtain⟨f,hf⟩:=ay fs i fu;obtain⟨n0,ag,many,κ,cap,rs,O,_,h24,tg,hnm,HF⟩:=D i z f hz hf;obtain⟨bs,Ia,hV⟩:=O.view;refine⟨⟨z.name,z.params,z.ag,bs⟩,fun z2 f2 h1 h2=>?_⟩;rw[hz] at h1;cases h1;rw[hf] at h2;cases h2;refine⟨⟨z.B,rfl,Ia⟩,⟨by show z.ag<=f.ag+1;rw[hnm.2.2];exact HF.1,fun c hc=>?_⟩,by show bs.length<=72;rw[hV.1];exact h24,fun b hb=>?_⟩
  .show FD (UJ c) bs=FD (UJ c) f.blocks;rw[Xe hV];exact HF.2 c hc
  obtain⟨j,hj⟩:=oD hb;obtain⟨r,hr⟩:=ay rs j (by rw[<-hV.1];exact(bK.mp hj).1);have v:=hV.2 j r b hr hj;rw[v.ll];exact(tg r (bU hr)).2)
 rw[List.length_range] at Ga;have at':∀(i:Nat)(g:GF),Ad[i]?=some g->∃z f,zs[i]?=some z/\fs[i]?=some f/\fR h (Bs.enc z) g/\(g.ag<=f.ag+1/\∀c:Int,c≠1->LX c g.blocks=LX c f.blocks)/\g.blocks.length<=72/\∀b∈g.blocks,b.list.length<=100000:=by
  intro i g hg;have fu:i<fs.length:=by rw[<-Ga];exact(bK.mp hg).1
  obtain⟨z,hz⟩:=ay zs i;obtain⟨f,hf⟩:=ay fs i fu;exact⟨z,f,hz,hf,H i i g (List.getElem?_range fu) hg z f hz hf⟩
 refine⟨Ad,Ga,hF.view (by omega) (fun i z g h1 h2=>?_),⟨by omega,fun g hg=>?_,fun g hg b hb=>?_⟩,fun i g f h1 h2=>?_,fun c hc=>?_⟩
 .obtain⟨z2,f,a,b,c,_⟩:=at' i g h2;rw[h1] at a;cases a;exact c
 .obtain⟨i,hi⟩:=oD hg;obtain⟨z,f,a,b,c,d,e,_⟩:=at' i g hi;omega
 .obtain⟨i,hi⟩:=oD hg;obtain⟨z,f,a,b2,c,d,e,k⟩:=at' i g hi;have:=k b hb;omega
 .obtain⟨z,f2,a,b,c,d,_⟩:=at' i g h1;rw[h2] at b;cases b;exact d.1
 .unfold OS;have h1:=LF (fun f:GF=>LX c f.blocks) Ad fs Ga (fun i g f h1 h2=>by obtain⟨z,f2,a,b,_,d,_⟩:=at' i g h1;rw[h2] at b;cases b;rw[d.2 c hc];exact dH _)
  have h2:=LF (fun f:GF=>LX c f.blocks) fs Ad Ga.symm (fun i f g h2 h1=>by obtain⟨z,f2,a,b,_,d,_⟩:=at' i g h1;rw[h2] at b;cases b;rw[d.2 c hc];exact dH _)
  omega
def ao6(h0:ab)(U V:Nat)(n:Nat)(m:Nat)(e':Env)(h':ab):Prop:=
 ∃i:Nat,m=n-i/\i<=n/\ai e' 1=.pointer (some ⟨U,0,none⟩)/\ai e' 3=.pointer (some ⟨V,0,none⟩)/\ai e' 5=.int .i64 i/\aa aG h0 h'
theorem acf(ok:bl h)(okV:bl hV)(g0:aa aG h h1)(gV:aa aG hV h1){G F G' F':SV}{fs Ad:List GF}(hF:SliceR (fR h) 4 h F.v fs)(u5:SliceR (fR hV) 4 hV F'.v Ad)(hl:Ad.length=fs.length)(Aj:fs.length<=10)(hr:∀(i:Nat)(g f:GF),Ad[i]?=some g->fs[i]?=some f->g.ag<=f.ag+1)(hb:∀f∈fs,0<=f.ag/\f.ag<=100)(hU:h1.tr.get U=some (.aC [G.v,F.v] false 0 sU))(hVb:h1.tr.get V=some (.aC [G'.v,F'.v] false 0 sV))(f1:ai e 1=.pointer (some ⟨U,0,none⟩))(f3:ai e 3=.pointer (some ⟨V,0,none⟩))(f5:ai e 5=.int .i64 0)(C:∀e' h',ai e' 1=.pointer (some ⟨U,0,none⟩)->ai e' 3=.pointer (some ⟨V,0,none⟩)->aa aG h1 h'->QQ (.exit 0) e' h'):az FF (.loop ja) e h1 QQ:=by
 have qi:=SliceR.len hF;have aqw:=SliceR.len u5;refine az.loop (ao6 h1 U V fs.length) ?_ (n:=fs.length) ⟨0,rfl,by omega,f1,f3,f5,.refl g0.ok⟩;rintro m e' h'⟨i,rfl,hi,q1,q3,q5,g⟩;have cw:=g.ok;have yo:=g.get g0.ok hU;have H6:=g.get g0.ok hVb;simp at yo H6;rw[qi] at yo;rw[aqw,hl] at H6;unfold ja;by_cases fu:i<fs.length
 .have wi:=wrap_i64 ((i:Int)+1) (by omega) (by omega);obtain⟨f,hf⟩:=ay fs i fu;obtain⟨f',hf'⟩:=ay Ad i;obtain⟨bF,aml,cF,zu,_,_,⟨B,rfl,sB⟩,oF,hrdF⟩:=SliceR.later ok hF hf;obtain⟨bF',axc,cF',aqs,_,_,⟨B',rfl,sB'⟩,oF',hrdF'⟩:=SliceR.later okV u5 hf';have rF:=hrdF h' (g0.trans g) 2 1 (by decide);have rF':=hrdF' h' (gV.trans g) 2 1 (by decide);simp[-ae] at rF rF';rw[zu] at yo;rw[aqs] at H6;have hrr:=hr i f' f hf' hf;have hbb:=hb f (bU hf);have w1:=wrap_i64 (f.ag+1) (by omega) (by omega);have hng:¬f.ag+1<f'.ag:=by omega
  have oU:=cw.bE yo;have oV:=cw.bE H6;have oF1:=(g0.trans g).bE oF;have oF2:=(gV.trans g).bE oF';simp[q1,q3,q5,yo,H6,aq yo,aq H6,fu,rF,rF',w1,hng,oU,oV,oF1,oF2,-ae,aB,wi];exact⟨fs.length-(i+1),by omega,i+1,rfl,fu,by simp[q1],by simp[q3],by simp,by first|exact g.tick|exact g⟩
 .have:i=fs.length:=by omega
  subst this;simp[q1,q5,yo];exact C _ _ (by simp[q1]) (by simp[q3]) g
def ao5(h0:ab)(U V:Nat)(m:Nat)(e':Env)(h':ab):Prop:=
 ∃o:Nat,m=23-o/\2<=o/\o<=23/\ai e' 1=.pointer (some ⟨U,0,none⟩)/\ai e' 3=.pointer (some ⟨V,0,none⟩)/\ai e' 6=.int .i64 o/\aa aG h0 h'
theorem agY(ok:bl h)(okV:bl hV)(g0:aa aG h h1)(gV:aa aG hV h1){G F G' F':SV}{fs Ad:List GF}(hF:SliceR (fR h) 4 h F.v fs)(u5:SliceR (fR hV) 4 hV F'.v Ad)(Cf:Tq fs)(Cf':Tq Ad)(hc:∀c:Int,c≠1->OS c Ad=OS c fs)(hU:h1.tr.get U=some (.aC [G.v,F.v] false 0 sU))(hVb:h1.tr.get V=some (.aC [G'.v,F'.v] false 0 sV))(f1:ai e 1=.pointer (some ⟨U,0,none⟩))(f3:ai e 3=.pointer (some ⟨V,0,none⟩))(f6:ai e 6=.int .i64 2)(C:∀e' h',QQ (.exit 2) e' h'):az FF (.loop iZ) e h1 QQ:=by
 refine az.loop (ao5 h1 U V) ?_ (n:=21) ⟨2,rfl,by omega,by omega,f1,f3,f6,.refl g0.ok⟩;rintro m e' h'⟨o,rfl,ho2,ho,q1,q3,q6,g⟩;have cw:=g.ok;have yo:=g.get g0.ok hU;have H6:=g.get g0.ok hVb;simp at yo H6;unfold iZ;by_cases KH:o<=22
 .have wo:=wrap_i64 ((o:Int)+1) (by omega) (by omega);have asd:(o:Int)<=22:=by omega
  have oU:=cw.bE yo;have oV:=cw.bE H6;have sV2:=cw.st _ _ _ _ _ H6;have hco:=hc (o:Int) (by omega);simp[q1,q3,q6,yo,H6,aq yo,aq H6,asd,oU,oV,aB];have gt:aa aG h' (tick h'):=aS cw;generalize tick h'=h2 at gt⊢;have hV3:=gt.get cw H6;refine aZ.call (V:=fun v h3=>aa aG h2 h3/\v=.int .i64 ((OS (o:Int) fs:Nat):Int)) (by simpa using NP (G:=G) gt.ok (hF.mono ok ((g0.trans g).trans gt) fun _ _ r=>r.mono ok ((g0.trans g).trans gt)) Cf (o:Int)) ?_;rintro _ h3⟨g3,rfl⟩;have M4:=g3.get gt.ok hV3;simp[q3,M4,sV2];refine aZ.call (V:=fun v h4=>aa aG h3 h4/\v=.int .i64 ((OS (o:Int) Ad:Nat):Int)) (by simpa using NP (G:=G') g3.ok (u5.mono okV (((gV.trans g).trans gt).trans g3) fun _ _ r=>r.mono okV (((gV.trans g).trans gt).trans g3)) Cf' (o:Int)) ?_;rintro _ h4⟨g4,rfl⟩;simp[hco,q6,wo];exact⟨23-(o+1),by omega,o+1,rfl,by omega,by omega,by simp[q1],by simp[q3],by simp,((g.trans gt).trans g3).trans g4⟩
 .have:¬(o:Int)<=22:=by omega
  simp[q6,this];exact C _ _
theorem K9(ok:bl h)(hw:D9 h){G F:SV}{u:GU}(hu:uR h G F u)(s1:Small u)(sm:Cr u):aE FF oN [.agg ⟨[G.v,F.v]⟩] h (fun v _=>v=.bool true):=by
 refine aE.of xe ?_;unfold oK;simp;refine aF.cut (fun h1=>aa aG h h1/\h1.tr.get h.next=some (.aC [G.v,F.v] false 0 0)) ⟨(aa.refl ok).new _ _,by simp⟩ ?_;rintro h1⟨g1,hU1⟩;refine aF.call (V:=fun v h'=>aa aG h1 h'/\∃hv:Bool,v=.bool hv/\(hv=false->u.funcs.length<=10/\∀f∈u.funcs,E8 f)) (by simpa using Qe g1.ok (hu.mono ok g1) s1) ?_;rintro _ h2⟨g2,hv,rfl,hL⟩;have jd:=g1.trans g2;have yo:=g2.get g1.ok hU1;have Kz:=yo;simp at Kz;cases hv with
 |true=>simp
 |false=>
 obtain⟨Aj,hL⟩:=hL rfl;simp[Kz];refine aF.call (V:=DoQ OuP u h2) (by simpa using YW g2.ok (hw.grow ok jd) (hu.mono ok jd) sm hL) ?_;rintro _ h3⟨g3,G',F',c,a,rfl,hc⟩;have FY:=g3.get g2.ok yo;have lU:=g3.ok.wf _ _ FY;have dw:=jd.trans g3;have n1:¬h3.next=h3.next+1:=by omega
 simp;rcases hc with⟨hc,eG,eF⟩|⟨rfl,hS,M,ys,zs,A1,A2,A3,A4,A5⟩
 .have OO:(c !=0)=true:=by simp[hc]
  have lG:G'.l=0:=by rw[eG];rfl
  have lF:F'.l=0:=by rw[eF];rfl
  refine az.cut (fun h4=>aa aG h3 h4/\∃s,h4.tr.get h3.next=some (.aC [.slice G'.a G'.l G'.c,.slice F'.a F'.l F'.c] false 0 s)) ?_ ?_
  .exact⟨((((aa.refl g3.ok).new _ _).new _ _).put ⟨0,by simp[n1]⟩ (.inl (by omega))).put ⟨0,by simp⟩ (.inl (by omega)),h3.clock,by simp[n1,aR]⟩
  rintro h4⟨g4,sV,M4⟩;simp[OO,M4];refine aF.call (V:=fun v h'=>v=.bool (decide (G'.l=0)&&decide (F'.l=0))/\aa aG h4 h') (by simpa using Jr g4.ok G' F') ?_;rintro _ h5⟨rfl,g5⟩;simp[lG,lF]
 .refine az.cut (fun h4=>aa aG h3 h4/\∃s,h4.tr.get h3.next=some (.aC [.slice G'.a G'.l G'.c,.slice F'.a F'.l F'.c] false 0 s)) ?_ ?_
  .exact⟨((((aa.refl g3.ok).new _ _).new _ _).put ⟨0,by simp[n1]⟩ (.inl (by omega))).put ⟨0,by simp⟩ (.inl (by omega)),h3.clock,by simp[n1,aR]⟩
  rintro h4⟨g4,sV,M4⟩;have V0:=g4.get g3.ok FY;have abl:=V0;simp at abl;have oE:=dw.trans g4;have qi:=A3.len;have hFu:=SliceR.len hu.2;have af1:=hS.unit.one;have hF0:¬F'.l=0:=by omega
  simp[M4];refine aF.call (V:=fun v h'=>v=.bool (decide (G'.l=0)&&decide (F'.l=0))/\aa aG h4 h') (by simpa using Jr g4.ok G' F') ?_;rintro _ h6⟨rfl,g6⟩;have hV6:=g6.get g4.ok M4;have Uf:=g6.get g4.ok V0;have Ug:=Uf;simp at Ug;have g36:=g4.trans g6;obtain⟨Ad,Ga,u5,H0,alx,ash⟩:=PR A3 A4 A5 Aj;have aqu:F'.l=F.l:=by omega
  have ta:¬F.l=0:=by omega
  simp[hF0,ta,hV6,Ug,aqu];refine acf (G:=G) (G':=G') (fs:=u.funcs) ok g3.ok (oE.trans g6) g36 hu.2 u5 Ga Aj alx (fun f hf=>by have:=(hS.form f hf).head.ag;have:=(hS.form f hf).head.params;omega) Uf hV6 (by simp) (by simp) (by simp) ?_;intro e7 h7 q1 q3 g7;simp;refine agY (G:=G) (G':=G') (fs:=u.funcs) ok g3.ok ((oE.trans g6).trans g7) (g36.trans g7) hu.2 u5 (Xd hS) H0 ash (g7.get g6.ok Uf) (g7.get g6.ok hV6) (by simp[q1]) (by simp[q3]) (by simp) ?_;intro e8 h8;simp
end Go.Proofs.YtdhnndleffachaaGreatDoor
