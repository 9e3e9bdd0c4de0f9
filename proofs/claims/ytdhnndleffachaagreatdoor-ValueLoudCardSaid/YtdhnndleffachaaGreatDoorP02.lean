/- Parts of the proof. -/
import Derived.Test.YtdhnndleffachaaGreatDoorP01
import Derived.ProofKit
import Derived.Test.YtdhnndleffachaaGreatDoorP00
import Derived.WideKeyArgs
import Derived.OpenShut
import Derived.Test.YtdhnndleffachaaGreatDoorProg
import Derived.KernelRfl
set_option linter.all false
namespace Go.AI
variable{F:Nat->Option bM}{P:Program}{S:Nat->Prop}{T:oR}{args cs:List Value}{b f id k n n0 ng off t:Nat}{d:Option Nat}{e e':Env}{fv v:Value}{h h' h₁ h₂:ae}{o:aY}{op:ja}{r:Value×ae}{α:Type}
section
variable{P:Program}{T:oR}{ng:Nat}{dr:pq}{F:Nat->Option bM}{ih:aq->Env->ae->R}{n c:Nat}{ops:Array Oper}{σ:Nat->Nat}{l:List (aY×List Nat)}{E:Nat->Env}{H:Nat->ae}
theorem AM{tmps:Array Value}{j t:Nat}{o:Oper}(ho:ops[j]?=some o)(hd:o.dst=some t):
  yielded ops tmps j=match tmps.getD t undef with|.bool b=>some b|_=>none:=by
 simp only[yielded,ho,Option.bind_some,hd];rw[Array.getD_eq_getD_getElem?];cases tmps[t]? with
 |none=>rfl
 |some v=>cases v<;>rfl
theorem MR{ao:aY}{h0 h1:ae}(hk:ao.op.kind=2)(hc:cy F ih ao e h0=some (e',h1))(dS:h0.next<h1.next):∀t,ao.dst=some t->leads (ak e' t)=some h0.next:=by
 intro t ht;have hnc:=kl (o:=ao.op) (by omega);unfold cy at hc;cases hw:wanted e ao.guard with
 |false=>
  simp only[hw,cond_false,jm,vz] at hc;rw[hc.2] at dS;omega
 |true=>
  simp only[hw,cond_true] at hc;split at hc
  .rename_i v0 Iy AU;simp only[jm,vz] at hc;obtain⟨NM,_⟩:=hc;obtain⟨s,cells,hv,_,_⟩:=xf hk AU;rw[<-NM,ht,hv];simp only[cG,Env.az,if_true];exact RR s _
  .cases hc
theorem aeU{o:Oper}(hc:cy F ih (aM T ng n ops.toList o) e h=some (e',h')):tB ng n ops.toList o=true:=by
 unfold aM at hc;cases dx:tB ng n ops.toList o with
 |false=>rw[dx] at hc;simp[cy,wanted,bw] at hc
 |true=>rfl
open Classical in
theorem Uy(hF:Cy P T ng dr F)(hT:cu P T)(hI:pt P T ng dr ih)(hK:fO ih)(hq:Dl F ih T ng n ops σ E H)(hg:jb T ng n ops σ l)(II:∀(k:Nat)(ao:aY)(lH:List Nat),l[k]?=some (ao,lH)->still (E (k+1)) (H (k+1)) c lH=true)(AP:c<(H 0).clock)(hwf:WF (H 0))(b:Frame)(kk:List Item)(cs:List Frame)(ρ0:dE)(w0:World):
  ∀(D:Nat->Prop)(L:List Nat),Ord ops D L->(∀i o,ops[i]?=some o->D i->∀k∈gG .any o,D k)->
  ∀(ρ:dE)(w:World)(a:Act)(q:Nat),q<=ops.size->(∀(p:Nat)(o':Oper),p<ops.size->ops[σ p]?=some o'->(aM T ng n ops.toList o').op.kind=3->(D (σ p)↔p<q))->
   cK (eO T ng dr) ρ (H q) w->cj ng ρ->n<=a.tmps.size->Ext ρ0 (H 0) w0 ρ (H q) w->
   (∀(p:Nat)(o:Oper)(t:Nat),p<ops.size->ops[σ p]?=some o->o.dst=some t->D (σ p)->VR ρ (ak (E (p+1)) t) (a.tmps.getD t undef))->
   (∀t,(∀(i:Nat)(o:Oper),ops[i]?=some o->o.dst=some t->¬D i)->VR ρ (ak (E 0) t) (a.tmps.getD t undef))->
   (∀(p:Nat)(o:Oper),p<ops.size->ops[σ p]?=some o->(aM T ng n ops.toList o).op.kind=2->¬D (σ p)->(H p).next<(H (p+1)).next->ρ (H p).next=none)->
   ∃ρ' w' a',Steps P (lone (on b a (.inRegion ops L::kk)) cs w) (lone (on b a' (.inRegion ops []::kk)) cs w')/\
    cK (eO T ng dr) ρ' (H ops.size) w'/\ER ρ' (E ops.size) a'.tmps/\a'.tmps.size=a.tmps.size/\a'.defers=a.defers/\Ext ρ0 (H 0) w0 ρ' (H ops.size) w':=by
 have vi:∀a b,a<=b->b<=ops.size->(H a).next<=(H b).next:=fun a b h1 h2=>(p_ hK hq hg b h1 h2).next
 intro D L hO;induction hO with
 | @nil D mD=>
  intro hDc ρ w a q Fp hDq S hG hn X hv hv0 KO;have cq:JM T ng n ops σ q ops.size:=by intro k o h1 h2 h3 h4;have:=(hDq k o h2 h3 h4).1 (mD _ (hg.bound k h2));omega
  obtain⟨S1,X1⟩:=Jo hq hg S ops.size Fp (dw _) cq;refine⟨ρ,w,a,Steps.refl P _,S1,?_,rfl,rfl,X.trans X1⟩;intro t;by_cases hex:∃(i:Nat) (o:Oper),ops[i]?=some o/\o.dst=some t
  .obtain⟨i,o,ho,hd⟩:=hex;obtain⟨p,hp,rfl⟩:=hg.ZY i (Array.getElem?_eq_some_iff.1 ho).1;have:=hv p o t hp ho hd (mD _ (hg.bound p hp));rwa [<-u0 hq hg ops.size (a:=p+1) (by omega) (dw _) (fun k ok h1 h2 h3 h4=>by have:=hg.inj p k hp h2 (hg.once (σ p) (σ k) o ok t ho h3 hd h4);omega)] at this
  .have:=hv0 t (fun i o h1 h2=>absurd ⟨i,o,h1,h2⟩ hex);rwa [<-u0 hq hg ops.size (a:=0) (by omega) (dw _) (fun k ok h1 h2 h3 h4=>hex ⟨σ k,ok,h3,h4⟩)] at this
 | @cons D i L o ho wv he hl ihl=>
  intro hDc ρ w a q Fp hDq S hG hn X hv hv0 KO;have zj:i<ops.size:=(Array.getElem?_eq_some_iff.1 ho).1;obtain⟨p,hp,Yi⟩:=hg.ZY i zj;subst Yi;have Ug:∀j,Cx ops (σ p) j->D j:=fun j hj=>hj.closed hDc (fun o' CY=>by rw[ho] at CY;cases CY;exact he);have Pw:∀j,Cx ops j (σ p)->¬D j:=by
   intro j hj hDj;have hjm:∃oj,ops[j]?=some oj:=by
    cases hj with
    |YI h _=>exact⟨_,h⟩
    |rU h _ _=>exact⟨_,h⟩
   obtain⟨oj,Zp⟩:=hjm;exact wv (hj.closed hDc (fun o' CY=>hDc j o' CY hDj))
  
  have Jv:∀t,(∀(j:Nat)(oj:Oper),ops[j]?=some oj->oj.dst=some t->Cx ops (σ p) j\/Cx ops j (σ p))->VR ρ (ak (E p) t) (a.tmps.getD t undef):=by
   intro t ht;by_cases hex:∃(j:Nat) (oj:Oper),ops[j]?=some oj/\oj.dst=some t
   .obtain⟨j,oj,Zp,hdj⟩:=hex;obtain⟨pj,N0,rfl⟩:=hg.ZY j (Array.getElem?_eq_some_iff.1 Zp).1;rcases ht _ oj Zp hdj with hj|hj
    .obtain⟨pj',dS,NM⟩:=hg.MS hj p hp rfl;have:=hg.inj pj' pj (by omega) N0 NM;subst this;have:=hv pj' oj t N0 Zp hdj (Ug _ hj);rwa [<-u0 hq hg p (a:=pj'+1) (by omega) (by omega) (fun k ok h1 h2 h3 h4=>by have:=hg.inj pj' k N0 (by omega) (hg.once _ _ oj ok t Zp h3 hdj h4);omega)] at this
    .obtain⟨pp,dS,NM⟩:=hg.MS hj pj N0 rfl;have hpp:=hg.inj pp p (by omega) hp NM;subst hpp;have:=hv0 t (fun j' oj' h1 h2=>by rw[hg.once j' (σ pj) oj' oj t h1 Zp h2 hdj];exact Pw _ hj);rwa [<-u0 hq hg pp (a:=0) (by omega) (by omega) (fun k ok h1 h2 h3 h4=>by have:=hg.inj pj k N0 (by omega) (hg.once _ _ oj ok t Zp h3 hdj h4);omega)] at this
   .have:=hv0 t (fun j oj h1 h2=>absurd ⟨j,oj,h1,h2⟩ hex);rwa [<-u0 hq hg p (a:=0) (by omega) (by omega) (fun k ok h1 h2 h3 h4=>hex ⟨σ k,ok,h3,h4⟩)] at this
  
  let JT:List Nat:=(ops.toList.filterMap (·.dst)).filter fun t=>decide (¬VR ρ (ak (E p) t) (a.tmps.getD t undef))
  have an9:∀t,t∉JT->VR ρ (ak (E p) t) (a.tmps.getD t undef):=by
   intro t ht;by_cases hex:∃(j:Nat) (oj:Oper),ops[j]?=some oj/\oj.dst=some t
   .obtain⟨j,oj,Zp,hdj⟩:=hex;apply Classical.byContradiction;intro cq;refine ht (Ms.2 ⟨List.mem_filterMap.2 ⟨oj,?_,hdj⟩,by simpa using cq⟩);exact dG (i:=j) (by simpa using Zp)
   .exact Jv t (fun j oj h1 h2=>absurd ⟨j,oj,h1,h2⟩ hex)
  have aba:∀t,VR ρ (ak (E p) t) (a.tmps.getD t undef)->t∉JT:=by intro t ht hm;have:=(Ms.1 hm).2;simp only[decide_eq_true_eq] at this;exact this ht
  let e2:=Hd JT (E p)
  let a2:Act:= {a with tmps:=Ek JT a.tmps}
  have hE2:ER ρ e2 a2.tmps:=by
   intro t;show VR ρ (ak (Hd JT (E p)) t) ((Ek JT a.tmps).getD t undef);rw[wZ,wY];by_cases ht:t∈JT
   .rw[aZ ht,aZ ht];exact VR.undef
   .rw[aW ht,aW ht];exact an9 t ht
  have Bk:∀x∈o.op.operands.toList,ev (E p) x=ev e2 x/\a.eval x=a2.eval x:=by
   intro x hx;cases x with
   |tmp t=>
    have ht:=aba t (Jv t (fun j oj h1 h2=>hg.reads (σ p) o t ho hx j oj h1 h2));simp only[ev,Act.eval,e2,a2];rw[wZ,wY,aW ht,aW ht];exact⟨rfl,rfl⟩
   |_=>exact⟨rfl,rfl⟩
  have Rh:=hq p o hp ho;have dx:=aeU Rh;have Br:Region.wanted o (yielded ops a.tmps)=wanted (E p) (guardOf ops.toList o):=by
   unfold guardOf;cases CW:o.guard with
   |none=>simp[Region.wanted,CW,wanted]
   |some x=>
    obtain⟨g,bb⟩:=x;dsimp only;have hgs:(BB ops.toList g).isSome=true:=by simp only[tB,uh,CW] at dx;exact dx.1.2
    obtain⟨t,ht⟩:=Option.isSome_iff_exists.1 hgs;have an6:=hg.guard (σ p) o g bb ho CW;have tW:∃og,ops[g]?=some og/\og.dst=some t:=by
     unfold BB at ht;split at ht
     .rename_i og hog;exact⟨og,by simpa using hog,ht⟩
     .cases ht
    obtain⟨og,hog,hdg⟩:=tW;have api:=Jv t (fun j oj h1 h2=>by rw[<-hg.once g j og oj t hog h1 hdg h2];exact .inl an6);have KT:=aba t api;have h1:=Fe (a:=a2) hE2 (ops:=ops) (o:=o) (g:=some (t,bb)) (.inr ⟨g,bb,t,CW,ht,rfl⟩);have h2:yielded ops a.tmps g=yielded ops a2.tmps g:=by
     have hmk:(Ek JT a.tmps).getD t undef=a.tmps.getD t undef:=by rw[wY,aW KT]
     rw[AM hog hdg,AM hog hdg];simp only[a2,hmk]
    rw[ht];have h3:wanted (E p) (some (t,bb))=wanted e2 (some (t,bb)):=by simp only[wanted,e2];rw[wZ,aW KT]
    show Region.wanted o (yielded ops a.tmps)=wanted (E p) (some (t,bb));rw[h3,<-h1];simp only[Region.wanted,CW,h2]
  have Ze:∀(k:Nat)(ok:Oper),k<p->ops[σ k]?=some ok->(aM T ng n ops.toList ok).op.kind=3->k<q:=fun k ok h1 h2 h3=>
   (hDq k ok (by omega) h2 h3).1 (Ug _ (hg.eager p k ok h1 hp h2 h3))
  
  have Cb:∃q' ρ1 w1 cv v,q'<=ops.size/\Steps P (lone (on b a (.inRegion ops (σ p::L)::kk)) cs w) (lone (on b (a.put o.dst cv) (.inRegion ops L::kk)) cs w1)/\
    E (p+1)=cG (E p) o.dst v/\VR ρ1 v cv/\(∀d,o.dst=some d->d<a.tmps.size)/\cK (eO T ng dr) ρ1 (H q') w1/\ρ.le ρ1/\Ext ρ0 (H 0) w0 ρ1 (H q') w1/\
    (∀(k:Nat)(o':Oper),k<ops.size->ops[σ k]?=some o'->(aM T ng n ops.toList o').op.kind=3->((D (σ k)\/σ k=σ p)↔k<q'))/\
    (∀(k:Nat),k<ops.size->k≠p->(H k).next<(H (k+1)).next->ρ (H k).next=none->ρ1 (H k).next=none):=by
   by_cases hk3:(aM T ng n ops.toList o).op.kind=3
   .have hqp:q<=p:=by apply Classical.byContradiction;intro h;exact wv ((hDq p o hp ho hk3).2 (by omega))
    obtain⟨S1,X1⟩:=Jo hq hg S p hqp (by omega) (fun k ok h1 h2 h3 h4=>by have:=Ze k ok h2 h3 h4;omega);obtain⟨ρ1,w1,cv,v,s1,NA,Tx,tW,S2,X2⟩:=xg hF hT hI ho Rh S1 hG (a:=a) (a2:=a2) hE2 hn Bk Br b kk cs L;refine⟨p+1,ρ1,w1,cv,v,by omega,s1,NA,Tx,tW,S2,X2.le,(X.trans X1).trans X2,?_,?_⟩
    .intro k o' h1 h2 h3;have:=hDq k o' h1 h2 h3;constructor
     .rintro(h|h)
      .have:=this.1 h;omega
      .have:=hg.inj k p h1 hp h;omega
     .intro h;by_cases Yd:k=p
      .exact .inr (by rw[Yd])
      .exact .inl (this.2 (Ze k o' (by omega) h2 h3))
    .intro k h1 h2 h3 h4;cases hr:ρ1 (H k).next with
     |none=>rfl
     |some r=>
      have g1:=X2.new _ r hr h4;have g2:=(S2.low _ r hr).1;rcases zf k p with h|h
      .have:=vi (k+1) p (by omega) (by omega);omega
      .have:=vi (p+1) k (by omega) (by omega);omega
   .have aoT:=IV hk3
    
    obtain⟨q1,Vt,Bl,S1,X1,ag9⟩:∃q1,q1<=ops.size/\p<q1/\cK (eO T ng dr) ρ (H q1) w/\Ext ρ0 (H 0) w0 ρ (H q1) w/\
      (∀(k:Nat)(o':Oper),k<ops.size->ops[σ k]?=some o'->(aM T ng n ops.toList o').op.kind=3->(D (σ k)↔k<q1)):=by
     by_cases hqp:p<q
     .exact⟨q,Fp,hqp,S,X,hDq⟩
     .have cq:JM T ng n ops σ q (p+1):=by
       intro k ok h1 h2 h3 h4;by_cases Yd:k=p
       .subst Yd;rw[ho] at h3;cases h3;exact hk3 h4
       .have:=Ze k ok (by omega) h3 h4;omega
      obtain⟨S1,X1⟩:=Jo hq hg S (p+1) (by omega) (by omega) cq;refine⟨p+1,by omega,by omega,S1,X.trans X1,fun k ok h1 h2 h3=>?_⟩;rw[hDq k ok h1 h2 h3];constructor
      .intro h;omega
      .intro h;by_cases Yd:k=p
       .subst Yd;rw[ho] at h2;cases h2;exact absurd h3 hk3
       .exact Ze k ok (by omega) h2 h3
    have PR:∀(u:Nat)(o':Oper),p<u->u<q1->ops[σ u]?=some o'->(aM T ng n ops.toList o').op.kind=3->¬Cx ops (σ u) (σ p):=
     fun u o' h1 h2 h3 h4 ha=>Pw _ ha ((ag9 u o' (by omega) h3 h4).2 h2)
    have Y1:∀(k:Nat)(o':Oper),k<ops.size->ops[σ k]?=some o'->(aM T ng n ops.toList o').op.kind=3->((D (σ k)\/σ k=σ p)↔k<q1):=by
     intro k o' h1 h2 h3;have:=ag9 k o' h1 h2 h3;constructor
     .rintro(h|h)
      .exact this.1 h
      .rw[h,ho] at h2;cases h2;exact absurd h3 hk3
     .intro h;exact .inl (this.2 h)
    by_cases AT:(aM T ng n ops.toList o).op.kind=2
    .obtain⟨ρ1,w1,cv,v,s1,NA,Tx,tW,S2,hle,hfr,hX⟩:=MQ hF hT hI ho AT Rh S1 hG (a:=a) (a2:=a2) hE2 hn Bk Br (KO p o hp ho AT wv)
      (fun _ dS=>Dy hK hq hg II AP Bl Vt ho (.inr AT) PR (fun h=>by rw[AT] at h;cases h) (fun _ t ht=>MR AT Rh dS t ht) dS)
      (vi (p+1) q1 Bl Vt) b kk cs L
     refine⟨q1,ρ1,w1,cv,v,Vt,s1,NA,Tx,tW,S2,hle,hX ρ0 (H 0) w0 (vi 0 p (by omega) (by omega)) X1,Y1,?_⟩;intro k h1 h2 h3 h4;refine hfr _ h4 fun dS heq=>?_;rcases zf k p with h|h
     .have:=vi (k+1) p (by omega) (by omega);omega
     .have:=vi (p+1) k (by omega) (by omega);omega
    .
     have iM:=Hl (by omega) Rh;have cR:cy F ih (aM T ng n ops.toList o) (E p) (H q1)=some (E (p+1),H q1):=by
      have zW:=Rh;rw[iM] at zW;have hnc:=kl (o:=(aM T ng n ops.toList o).op) aoT;unfold cy at zW⊢;cases hw:wanted (E p) (aM T ng n ops.toList o).guard with
      |false=>
       simp only[hw,cond_false,jm,vz] at zW⊢;exact⟨zW.1,trivial⟩
      |true=>
       simp only[hw,cond_true] at zW⊢;split at zW
       .rename_i v h1 AU;simp only[jm,vz] at zW;obtain⟨AQ,JD⟩:=zW;subst JD;have adB:bw (E p) (H q1) (aM T ng n ops.toList o).op=some (v,H q1):=by
         by_cases KQ:(aM T ng n ops.toList o).op.kind=0
         .exact(Ex KQ AU).2 (H q1)
         .have hk1:(aM T ng n ops.toList o).op.kind=1:=by omega
          obtain⟨_,x,hx,ade,ait⟩:=y8 hk1 AU;refine ade (H q1) fun bb X7=>?_;obtain⟨Uv,ro,op',s,hgt⟩:=ait bb X7;have apT:WF (H p):=(p_ hK hq hg (a:=0) p (by omega) (by omega)).wf hwf;have:=Dy hK hq hg II AP Bl Vt ho (.inl hk1) PR (b:=bb) (fun _ t ht _=>by rw[hx] at ht;cases ht;exact X7) (fun h=>by rw[hk1] at h;cases h)
           (by rw[iM];exact apT bb _ hgt)
          rw[this,iM]
        rw[adB];simp only[jm,vz];exact⟨AQ,trivial⟩
       .cases zW
     obtain⟨ρ1,w1,cv,v,s1,NA,Tx,tW,S2,X2⟩:=xg hF hT hI ho cR S1 hG (a:=a) (a2:=a2) hE2 hn Bk Br b kk cs L;refine⟨q1,ρ1,w1,cv,v,Vt,s1,NA,Tx,tW,S2,X2.le,X1.trans X2,Y1,?_⟩;intro k h1 h2 h3 h4;cases hr:ρ1 (H k).next with
     |none=>rfl
     |some r=>
      have g1:=X2.new _ r hr h4;have g2:=(S2.low _ r hr).1;omega
  obtain⟨q',ρ1,w1,cv,v,apw,s1,NA,Tx,tW,S1,z7,X1,Y1,aow⟩:=Cb;have Vs:∀t,o.dst≠some t->(a.put o.dst cv).tmps.getD t undef=a.tmps.getD t undef:=by
   intro t ht;cases hd:o.dst with
   |none=>rfl
   |some d=>
    have:d≠t:=fun e=>ht (by rw[hd,e]);simp[Act.put,Array.getD_eq_getD_getElem?,Array.getElem?_setIfInBounds,this]
  obtain⟨ρ2,w2,a2',s2,S2,E2,z2,d2,X2⟩:=ihl
   (by
    intro j oj hj hDj k hk;rcases hDj with h|h
    .exact .inl (hDc j oj hj h k hk)
    .subst h;rw[ho] at hj;cases hj;exact .inl (he k hk))
   ρ1 w1 (a.put o.dst cv) q' apw Y1 S1 (hG.mono z7) (by rw[dK];exact hn) X1
   (by
    intro pj oj t N0 hj hd hDj;by_cases Vj:pj=p
    .subst Vj;rw[ho] at hj;cases hj;rw[NA,hd];have dS:=tW t hd;simp only[cG,Env.az,if_true,Act.put];simp[Array.getD_eq_getD_getElem?,dS,Tx]
    .have ano:D (σ pj):=hDj.resolve_right (fun h=>Vj (hg.inj pj p N0 hp h));rw[Vs t (fun h=>Vj (hg.inj pj p N0 hp (hg.once (σ pj) (σ p) oj o t hj ho hd h)))];exact(hv pj oj t N0 hj hd ano).mono z7)
   (by intro t ht;have jO:o.dst≠some t:=fun h=>ht (σ p) o ho h (.inr rfl);rw[Vs t jO];exact(hv0 t (fun j oj h1 h2 h3=>ht j oj h1 h2 (.inl h3))).mono z7)
   (by intro k ok h1 h2 h3 h4 h5;have hnD:¬D (σ k):=fun h=>h4 (.inl h);have Yd:k≠p:=fun h=>h4 (.inr (by rw[h]));exact aow k h1 Yd h5 (KO k ok h1 h2 h3 hnD h5))
  exact⟨ρ2,w2,a2',s1.trans s2,S2,E2,z2.trans (dK _ _ _),d2.trans (put_defers _ _ _),X2⟩
end
theorem Uz(hF:Cy P T ng (dY T ng) F)(hT:cu P T):HD P T ng (dY T ng) F:=by
 intro ih hK hI n ops e h e' h' hc mixed t ρ w a b k cs S hG hE hn;have cq:dY T ng n ops.toList≠uA:=by intro he;rw[he] at hc;simp[uA,mG,cy,wanted,bw] at hc
 obtain⟨σ,hg⟩:=Kh cq;obtain⟨E,H,q1,q2,q3,q4,q5⟩:=Gs _ _ _ _ _ _ hc;rw[hg.len] at q3 q4;have hq:Dl F ih T ng n ops σ E H:=by intro p o hp ho;obtain⟨lH,hk⟩:=hg.get p o hp ho;exact(q5 p _ lH hk).1
 have hO:=Jm hg.any hg.text hg.gc mixed t;have S0:cK (eO T ng (dY T ng)) ρ (H 0) w:=by rw[q2];exact S.clock _
 obtain⟨ρ',w',a',s,S',E',z,d,X⟩:=Uy hF hT hI hK hq hg (fun k ao lH hk=>(q5 k ao lH hk).2) (c:=h.clock) (by rw[q2];exact Nat.lt_succ_self _) S0.wf b k cs ρ w
  (fun _=>False) _ hO (fun _ _ _ h=>h.elim) ρ w a 0 (Nat.zero_le _) (fun j o' _ _ _=>⟨fun h=>h.elim,fun h=>by omega⟩) S0 hG hn (.refl _ _ _)
  (fun _ _ _ _ _ _ h=>h.elim) (fun t _=>by rw[q1];exact hE t)
  (fun p o hp _ _ _ _=>by
   cases hr:ρ (H p).next with
   |none=>rfl
   |some r=>
    have g1:=(S0.low _ r hr).1;have g2:=(p_ hK hq hg (a:=0) p (by omega) (by omega)).next
    omega)
 rw[q3] at E';rw[q4] at S' X;refine⟨ρ',w',a',s,S',E',z,d,?_⟩;rw[q2] at X;exact(Ext.clock (ρ:=ρ) (h:=h) (w:=w) (h.clock+1)).trans X
def H8(T:oR)(ng:Nat)(f:Func):Option bM:=
 match f.body with
 |none=>none
 |some c=>match f.results.toList.mapM (yM T) with
  |none=>none
  |some rs=>bif f.name== "runtime.NumGoroutine" then none else some { res:=rs,body:=bX T ng f.ntmps (dY T ng) c }
theorem Hc{α β:Type}{f:α->Option β} :∀ {l:List α} {r:List β},l.mapM f=some r->All2 (fun a b=>f a=some b) l r
 |[],r,h=>by simp only[List.mapM_nil] at h;cases h;exact .nil
 |a::l,r,h=>by
  rw[List.mapM_cons] at h;cases ha:f a with
  |none=>simp[ha] at h
  |some b=>
   cases hl:l.mapM f with
   |none=>simp[ha,hl] at h
   |some bs=>
    simp[ha,hl] at h;subst h;exact .cons ha (Hc hl)
theorem Nb(h:∀f af,F f=some af->∃fn,P.funcs[f]?=some fn/\H8 T ng fn=some af):Cy P T ng (dY T ng) F:=by
 intro f af hf;obtain⟨fn,PN,hc⟩:=h f af hf
 suffices hs:af.Bw=.no/\∃fn c,P.funcs[f]?=some fn/\fn.body=some c/\(fn.name== "runtime.NumGoroutine")=false/\
   All2 (fun r ar=>yM T r=some ar) fn.results.toList af.res/\af.body=bX T ng fn.ntmps (dY T ng) c by
  rw[hs.1];exact hs.2
 unfold H8 at hc;split at hc
 .cases hc
 .rename_i c hb;split at hc
  .cases hc
  .rename_i rs KV;cases hn:fn.name== "runtime.NumGoroutine" with
   |true=>rw[hn] at hc;cases hc
   |false=>
    rw[hn] at hc;cases hc;exact⟨rfl,fn,c,PN,hb,hn,Hc KV,rfl⟩
section
variable{P:Program}{T:oR}{ng:Nat}{F:Nat->Option bM}
theorem yK(hF:Cy P T ng (dY T ng) F)(hT:cu P T){fuel f:Nat}{args cx:List Value}(hc:call F fuel f args h=some (v,h')){ρ:dE}{w:World}(S:cK (eO T ng (dY T ng)) ρ h w)(hG:cj ng ρ)(ha:All2 (VR ρ) args cx)(cs:List Frame):
  ∃fn ρ' w' c fr,P.funcs[f]?=some fn/\fn.body.isSome=true/\(fn.name== "runtime.NumGoroutine")=false/\
   Steps P (lone (Frame.enter P f ⟨cx⟩ .normal) cs w) (lone fr cs w')/\fr.fn=f/\fr.leaving P w' (.returned c)/\VR ρ' v c/\cK (eO T ng (dY T ng)) ρ' h' w'/\Ext ρ h w ρ' h' w':=
 vV hF hT (SM hF hT (Uz hF hT) fuel) hc S hG ha cs
end
def NO(P:Program)(t:Nat):TypeDesc->Bool
 |.struct _=> !P.stoodInHeld t
 |_=>true
def rJ(P:Program)(t:Nat):Option TI:=
 match P.info? t,P.underlying t with
 |some ti,some u=>match ti.zero with
  |none=>none
  |some z=>
   bif z.cells.toList.all cg&&(mg u||Nat.beq ti.size 1)&&Nat.beq z.cells.toList.length ti.size&&NO P t u&&(mg u||plain z)
   then some { u:=u,size:=ti.size,bytes:=ti.bytes,zero:=z.cells.toList,agg:=mg u } else none
 |_,_=>none
theorem Mc(P:Program):cu P (rJ P):=by
 intro t i h;unfold rJ at h;split at h
 .rename_i ti u jO hu;split at h
  .cases h
  .rename_i z hz;cases hb:(z.cells.toList.all cg&&(mg u||Nat.beq ti.size 1)&&Nat.beq z.cells.toList.length ti.size&&NO P t u&&(mg u||plain z)) with
   |false=>rw[hb] at h;cases h
   |true=>
    rw[hb] at h;cases h;simp only[uh] at hb;obtain⟨⟨⟨⟨h1,h2⟩,h3⟩,h4⟩,h5⟩:=hb;refine⟨hu,⟨ti,jO,rfl,rfl,z,hz,rfl⟩,rfl,h1,?_,mH h3,?_,?_⟩
    .intro ha;dsimp only at ha;rw[ha] at h2;exact mH (by simpa using h2)
    .intro fs Zg;dsimp only at Zg;rw[Zg] at h4;simpa [NO] using h4
    .intro ha ti' z' N6 TD;dsimp only at ha;rw[jO] at N6;cases N6;rw[hz] at TD;cases TD;rw[ha] at h5;simpa using h5
 .cases h
theorem aj{x fn:Func}{bg:Option Func}(h:(bif Nat.beq f k then some x else bg)=some fn)(hx:P.funcs[k]?=some x):P.funcs[f]?=some fn\/bg=some fn:=by
 cases hb:Nat.beq f k with
 |true=>
  rw[hb] at h;cases h;rw[mH hb];exact .inl hx
 |false=>rw[hb] at h;exact .inr h
def Iv(P:Program)(ng:Nat)(G:Nat->Option Func)(f:Nat):Option bM:=match G f with
 |some fn=>H8 (rJ P) ng fn
 |none=>none
theorem Ns{G:Nat->Option Func}(hG:∀f fn,G f=some fn->P.funcs[f]?=some fn):Cy P (rJ P) ng (dY (rJ P) ng) (Iv P ng G):=by
 refine Nb fun f af hf=>?_;unfold Iv at hf;split at hf
 .rename_i fn PN;exact⟨fn,hG f fn PN,hf⟩
 .cases hf
def GO(cs:List Value):ae:=⟨1,0,.node (some (.aC cs true 0 0)) .nil .nil⟩
section
open Go.ChangeShapes Go.WideShapes Go.ChangeAt
variable{H:Type}{enc:TypeId×Value->H}{P:Program}
end
def Ti(ih G0:aq->Env->ae->R):Prop:=∀c e h r,ih c e h=some r->G0 c e h=some r
section
variable{F:Nat->Option bM}{ih G0:aq->Env->ae->R}
theorem J3(H:Ti ih G0){o:Bool}(hc:oi F ih o f args h=some r):oi F G0 o f args h=some r:=by
 unfold oi at hc⊢;cases hf:F f with
 |none=>rw[hf] at hc;cases hc
 |some fn=>
  rw[hf] at hc;dsimp only at hc⊢;cases hp:fn.Bw with
  |Ox=>rw[hp] at hc;exact hc
  |run p k=>rw[hp] at hc;exact hc
  |no=>
   rw[hp] at hc;dsimp only at hc⊢;cases hb:ih fn.body (params .nil 0 args) h with
   |none=>rw[hb] at hc;cases hc
   |some x=>rw[hb] at hc;rw[H _ _ _ _ hb];exact hc
theorem Um(H:Ti ih G0)(hc:si F ih f args h=some r):si F G0 f args h=some r:=J3 H hc
theorem SH(H:Ti ih G0){l:Nat}{code:aq}(hc:y_ ih l code e h=some r):y_ G0 l code e h=some r:=by
 unfold y_ at hc⊢;split at hc
 .rename_i env ps asg body hg;cases hb:ih code e (fB h l env ps asg body .busy) with
  |none=>rw[hb] at hc;cases hc
  |some x=>rw[hb] at hc;rw[H _ _ _ _ hb];exact hc
 .cases hc
theorem SI(H:Ti ih G0){l:Nat}(hc:uX ih l args h=some r):uX G0 l args h=some r:=by
 unfold uX at hc⊢;split at hc
 .rename_i env ps asg body hg;cases hs:gU env ps args with
  |none=>rw[hs] at hc;cases hc
  |some e=>
   rw[hs] at hc;dsimp only at hc⊢;cases hb:ih asg e h with
   |none=>rw[hb] at hc;cases hc
   |some x=>
    obtain⟨x,e1,h1⟩:=x;rw[hb] at hc;rw[H _ _ _ _ hb];cases x with
    |normal=>exact SH H hc
    |exit id=>cases hc
    |ret=>cases hc
 .cases hc
theorem Un(H:Ti ih G0)(hc:cU F ih fv args h=some r):cU F G0 fv args h=some r:=by
 unfold cU at hc⊢;split at hc
 .exact J3 H hc
 .exact SI H hc
 .cases hc
theorem Aw(H:Ti ih G0){r:Env×ae}(hc:cy F ih o e h=some r):cy F G0 o e h=some r:=by
 unfold cy at hc⊢;cases hw:wanted e o.guard with
 |false=>rw[hw] at hc;exact hc
 |true=>
  rw[hw] at hc;simp only[cond_true] at hc⊢;split at hc
  .rename_i f args rO;cases hb:cU F ih (ev e f) (tI e args) h with
   |none=>rw[hb] at hc;cases hc
   |some x=>rw[hb] at hc;rw[Un H hb];exact hc
  .exact hc
theorem I7(H:Ti ih G0):∀ {l:List aY} {e:Env} {h:ae} {r:Env×ae},oE F ih l e h=some r->oE F G0 l e h=some r
 |[],_,_,_,hc=>hc
 |o::l,e,h,r,hc=>by
  unfold oE at hc⊢;cases hb:cy F ih o e h with
  |none=>rw[hb] at hc;cases hc
  |some x=>rw[hb] at hc;rw[Aw H hb];exact I7 H hc
theorem DK(H:Ti ih G0){k:Nat} :∀ {l:List (aY×List Nat)} {e:Env} {h:ae} {r:Env×ae},mG F ih k l e h=some r->mG F G0 k l e h=some r
 |[],_,_,_,hc=>hc
 |(o,lH)::l,e,h,r,hc=>by
  unfold mG at hc⊢;cases hb:cy F ih o e h with
  |none=>rw[hb] at hc;cases hc
  |some x=>
   obtain⟨e1,h1⟩:=x;rw[hb] at hc;rw[Aw H hb];dsimp only at hc⊢;cases hs:still e1 h1 k lH with
   |false=>rw[hs] at hc;cases hc
   |true=>rw[hs] at hc;exact DK H hc
theorem Xz(H:Ti ih G0):Ti (bN F ih) (bN F G0):=by
 intro c e h r hc;cases c with
 |skip=>exact hc
 |ret=>exact hc
 |bad=>exact hc
 |exit id=>exact hc
 |mcp src d n jn js t u=>exact hc
 |ops l=>
  unfold bN at hc⊢;cases hb:oE F ih l e h with
  |none=>simp only[hb] at hc;cases hc
  |some x=>simp only[hb] at hc;simp only[I7 H hb];exact hc
 |draw l=>
  unfold bN at hc⊢;cases hb:mG F ih h.clock l e {h with clock:=h.clock+1} with
  |none=>simp only[hb] at hc;cases hc
  |some x=>simp only[hb] at hc;simp only[DK H hb];exact hc
 |seq a b=>
  unfold bN at hc⊢;cases hb:ih a e h with
  |none=>simp only[hb] at hc;cases hc
  |some x=>
   obtain⟨x,e1,h1⟩:=x;simp only[hb] at hc;simp only[H _ _ _ _ hb];cases x with
   |normal=>exact H _ _ _ _ hc
   |exit id=>exact hc
   |ret=>exact hc
 |cond cc a b=>
  unfold bN at hc⊢;dsimp only at hc⊢;split at hc
  .first|exact H _ _ _ _ hc|(rename_i hv;rw[hv];exact H _ _ _ _ hc)
  .first|exact H _ _ _ _ hc|(rename_i hv;rw[hv];exact H _ _ _ _ hc)
  .cases hc
 |block id c=>
  unfold bN at hc⊢;cases hb:ih c e h with
  |none=>simp only[hb] at hc;cases hc
  |some x=>simp only[hb] at hc;simp only[H _ _ _ _ hb];exact hc
 |loop c=>
  unfold bN at hc⊢;cases hb:ih c e h with
  |none=>simp only[hb] at hc;cases hc
  |some x=>
   obtain⟨x,e1,h1⟩:=x;simp only[hb] at hc;simp only[H _ _ _ _ hb];cases x with
   |normal=>exact H _ _ _ _ hc
   |exit id=>exact hc
   |ret=>exact hc
 |Qr f ps asg body=>
  unfold bN at hc⊢;dsimp only at hc⊢;split at hc
  .rename_i g first caps hv
   cases hb:si F ih g (first.toList++[Value.func (.yield h.next) #[] #[]]++caps.toList) (h.new (.loop e ps asg body .ready)) with
   |none=>rw[hb] at hc;cases hc
   |some x=>rw[hb] at hc;rw[Um H hb];exact hc
  .cases hc
theorem dg(n:Nat):run F (n+1)=bN F (run F n):=rfl
theorem Qs:∀n,Ti (run F n) (run F (n+1))
 |0=>fun _ _ _ _ h=>by cases h
 |n+1=>Xz (Qs n)
theorem tG{n m:Nat}(h:n<=m):Ti (run F n) (run F m):=by
 induction h with
 |refl=>exact fun _ _ _ _ h=>h
 |step _ ih=>exact fun c e h r hr=>Qs _ c e h r (ih c e h r hr)
end
section
variable(F:Nat->Option bM)
def aB(c:aq)(e:Env)(h:ae)(Q:aT->Env->ae->Prop):Prop:=∃n x e' h',run F n c e h=some (x,e',h')/\Q x e' h'
def aG(l:List aY)(e:Env)(h:ae)(Q:Env->ae->Prop):Prop:=∃n e' h',oE F (run F n) l e h=some (e',h')/\Q e' h'
def aU(k:Nat)(l:List (aY×List Nat))(e:Env)(h:ae)(Q:Env->ae->Prop):Prop:=∃n e' h',mG F (run F n) k l e h=some (e',h')/\Q e' h'
def aF(f:Nat)(args:List Value)(h:ae)(Q:Value->ae->Prop):Prop:=∃n v h',si F (run F n) f args h=some (v,h')/\Q v h'
def c_(fv:Value)(args:List Value)(h:ae)(Q:Value->ae->Prop):Prop:=∃n v h',cU F (run F n) fv args h=some (v,h')/\Q v h'
end
def Gg(F:Nat->Option bM)(b:aq)(Q:aT->Env->ae->Prop):aT->Env->ae->Prop
 |.normal=>fun e h=>aB F b e h Q
 |.exit id=>Q (.exit id)
 |.ret=>Q .ret
@[simp] theorem abQ(F b Q e h):Gg F b Q .normal e h=aB F b e h Q:=rfl
@[simp] theorem afU(F b Q id e h):Gg F b Q (.exit id) e h=Q (.exit id) e h:=rfl
@[simp] theorem ajV(F b Q e h):Gg F b Q .ret e h=Q .ret e h:=rfl
def Dk(I:Env->ae->Prop)(Q:aT->Env->ae->Prop):aT->Env->ae->Prop
 |.normal=>I
 |.exit id=>Q (.exit id)
 |.ret=>Q .ret
@[simp] theorem aag(I Q e h):Dk I Q .normal e h=I e h:=rfl
@[simp] theorem aeS(I Q id e h):Dk I Q (.exit id) e h=Q (.exit id) e h:=rfl
@[simp] theorem afS(I Q e h):Dk I Q .ret e h=Q .ret e h:=rfl
def Fw(id:Nat)(Q:aT->Env->ae->Prop):aT->Env->ae->Prop
 |.normal=>Q .normal
 |.exit i=>bif Nat.beq i id then Q .normal else Q (.exit i)
 |.ret=>Q .ret
@[simp] theorem Ow(id Q e h):Fw id Q .normal e h=Q .normal e h:=rfl
@[simp] theorem Yq(id Q e h):Fw id Q (.exit id) e h=Q .normal e h:=by simp[Fw]
theorem EH(id Q i e h):Fw id Q (.exit i) e h=(bif Nat.beq i id then Q .normal else Q (.exit i)) e h:=rfl
theorem qR(id Q i e h)(hn:¬i=id):Fw id Q (.exit i) e h=Q (.exit i) e h:=by
 have hb:Nat.beq i id=false:=by
  cases hb:Nat.beq i id with
  |true=>exact absurd (mH hb) hn
  |false=>rfl
 rw[EH,hb];rfl
@[simp] theorem alj(id Q e h):Fw id Q .ret e h=Q .ret e h:=rfl
section
variable{F:Nat->Option bM}{Q:aT->Env->ae->Prop}{e:Env}{h:ae}
theorem aB.mono{c:aq}{Q':aT->Env->ae->Prop}(H:aB F c e h Q)(hQ:∀x e h,Q x e h->Q' x e h):aB F c e h Q':=by obtain⟨n,x,e',h',hr,hq⟩:=H;exact⟨n,x,e',h',hr,hQ _ _ _ hq⟩
theorem aF.mono{R R':Value->ae->Prop}(H:aF F f args h R)(hQ:∀v h,R v h->R' v h):aF F f args h R':=by obtain⟨n,v,h',hr,hq⟩:=H;exact⟨n,v,h',hr,hQ _ _ hq⟩
theorem c_.mono{R R':Value->ae->Prop}(H:c_ F fv args h R)(hQ:∀v h,R v h->R' v h):c_ F fv args h R':=by obtain⟨n,v,h',hr,hq⟩:=H;exact⟨n,v,h',hr,hQ _ _ hq⟩
theorem SP:aB F .skip e h Q↔Q .normal e h:=by
 constructor
 .rintro⟨n,x,e',h',hr,hq⟩;cases n with
  |zero=>cases hr
  |succ n=>cases hr;exact hq
 .intro hq;exact⟨1,.normal,e,h,rfl,hq⟩
theorem Xh:aB F .ret e h Q↔Q .ret e h:=by
 constructor
 .rintro⟨n,x,e',h',hr,hq⟩;cases n with
  |zero=>cases hr
  |succ n=>cases hr;exact hq
 .intro hq;exact⟨1,.ret,e,h,rfl,hq⟩
theorem SO :aB F (.exit id) e h Q↔Q (.exit id) e h:=by
 constructor
 .rintro⟨n,x,e',h',hr,hq⟩;cases n with
  |zero=>cases hr
  |succ n=>cases hr;exact hq
 .intro hq;exact⟨1,.exit id,e,h,rfl,hq⟩
theorem Xi{a b:aq} :aB F (.seq a b) e h Q↔aB F a e h (Gg F b Q):=by
 constructor
 .rintro⟨n,x,e',h',hr,hq⟩;cases n with
  |zero=>cases hr
  |succ n=>
   rw[dg] at hr;unfold bN at hr;dsimp only at hr;cases hb:run F n a e h with
   |none=>simp only[hb] at hr;cases hr
   |some y=>
    obtain⟨y,e1,h1⟩:=y;simp only[hb] at hr;refine⟨n,y,e1,h1,hb,?_⟩;cases y with
    |normal=>exact⟨n,x,e',h',hr,hq⟩
    |exit id=>cases hr;exact hq
    |ret=>cases hr;exact hq
 .rintro⟨n,x,e',h',hr,hq⟩;cases x with
  |normal=>
   obtain⟨m,y,e2,h2,hm,hq⟩:=hq;refine⟨max n m+1,y,e2,h2,?_,hq⟩;rw[dg];unfold bN;dsimp only;simp only[tG (Nat.le_max_left n m) _ _ _ _ hr];exact tG (Nat.le_max_right n m) _ _ _ _ hm
  |exit id=>
   refine⟨n+1,_,_,_,?_,hq⟩;rw[dg];unfold bN;dsimp only;simp only[hr]
  |ret=>
   refine⟨n+1,_,_,_,?_,hq⟩;rw[dg];unfold bN;dsimp only;simp only[hr]
theorem xm{c:Operand}{a b:aq}{t:Bool}(hc:ev e c=.bool t):aB F (.cond c a b) e h Q↔aB F (bif t then a else b) e h Q:=by
 constructor
 .rintro⟨n,x,e',h',hr,hq⟩;cases n with
  |zero=>cases hr
  |succ n=>
   rw[dg] at hr;unfold bN at hr;dsimp only at hr;rw[hc] at hr;cases t<;>exact⟨n,x,e',h',hr,hq⟩
 .rintro⟨n,x,e',h',hr,hq⟩;refine⟨n+1,x,e',h',?_,hq⟩;rw[dg];unfold bN;dsimp only;rw[hc];cases t<;>exact hr
theorem OM{c:aq} :aB F (.block id c) e h Q↔aB F c e h (Fw id Q):=by
 constructor
 .rintro⟨n,x,e',h',hr,hq⟩;cases n with
  |zero=>cases hr
  |succ n=>
   rw[dg] at hr;unfold bN at hr;dsimp only at hr;cases hb:run F n c e h with
   |none=>simp only[hb] at hr;cases hr
   |some y=>
    obtain⟨y,e1,h1⟩:=y;simp only[hb] at hr;refine⟨n,y,e1,h1,hb,?_⟩;cases y with
    |normal=>cases hr;exact hq
    |ret=>cases hr;exact hq
    |exit i=>
     rw[EH];dsimp only at hr;cases hi:Nat.beq i id<;>rw[hi] at hr<;>cases hr<;>exact hq
 .rintro⟨n,x,e',h',hr,hq⟩;cases x with
  |normal=>
   refine⟨n+1,_,_,_,?_,hq⟩;rw[dg];unfold bN;dsimp only;simp only[hr]
  |ret=>
   refine⟨n+1,_,_,_,?_,hq⟩;rw[dg];unfold bN;dsimp only;simp only[hr]
  |exit i=>
   rw[EH] at hq;cases hi:Nat.beq i id with
   |true=>
    rw[hi] at hq;refine⟨n+1,.normal,e',h',?_,hq⟩;rw[dg];unfold bN;dsimp only;simp only[hr,hi,cond_true]
   |false=>
    rw[hi] at hq;refine⟨n+1,.exit i,e',h',?_,hq⟩;rw[dg];unfold bN;dsimp only;simp only[hr,hi,cond_false]
theorem nz{c:aq} :aB F (.loop c) e h Q↔aB F c e h (Gg F (.loop c) Q):=by
 constructor
 .rintro⟨n,x,e',h',hr,hq⟩;cases n with
  |zero=>cases hr
  |succ n=>
   rw[dg] at hr;unfold bN at hr;dsimp only at hr;cases hb:run F n c e h with
   |none=>simp only[hb] at hr;cases hr
   |some y=>
    obtain⟨y,e1,h1⟩:=y;simp only[hb] at hr;refine⟨n,y,e1,h1,hb,?_⟩;cases y with
    |normal=>exact⟨n,x,e',h',hr,hq⟩
    |exit id=>cases hr;exact hq
    |ret=>cases hr;exact hq
 .rintro⟨n,x,e',h',hr,hq⟩;cases x with
  |normal=>
   obtain⟨m,y,e2,h2,hm,hq⟩:=hq;refine⟨max n m+1,y,e2,h2,?_,hq⟩;rw[dg];unfold bN;dsimp only;simp only[tG (Nat.le_max_left n m) _ _ _ _ hr];exact tG (Nat.le_max_right n m) _ _ _ _ hm
  |exit id=>
   refine⟨n+1,_,_,_,?_,hq⟩;rw[dg];unfold bN;dsimp only;simp only[hr]
  |ret=>
   refine⟨n+1,_,_,_,?_,hq⟩;rw[dg];unfold bN;dsimp only;simp only[hr]
theorem aB.loop{c:aq}(I:Nat->Env->ae->Prop)(hI:∀n e h,I n e h->aB F c e h (Dk (fun e h=>∃m,m<n/\I m e h) Q)){n:Nat}(h0:I n e h):aB F (.loop c) e h Q:=by
 induction n using Nat.strongRecOn generalizing e h with
 |ind n ih=>
  rw[nz];refine(hI n e h h0).mono fun x e h hq=>?_;cases x with
  |normal=>obtain⟨m,hm,hi⟩:=hq;exact ih m hm hi
  |exit id=>exact hq
  |ret=>exact hq
theorem Xg{l:List aY} :aB F (.ops l) e h Q↔aG F l e h (Q .normal):=by
 constructor
 .rintro⟨n,x,e',h',hr,hq⟩;cases n with
  |zero=>cases hr
  |succ n=>
   rw[dg] at hr;unfold bN at hr;dsimp only at hr;cases hb:oE F (run F n) l e h with
   |none=>simp only[hb] at hr;cases hr
   |some y=>simp only[hb] at hr;cases hr;exact⟨n,_,_,hb,hq⟩
 .rintro⟨n,e',h',hr,hq⟩;refine⟨n+1,.normal,e',h',?_,hq⟩;rw[dg];unfold bN;dsimp only;simp only[hr]
def tick(h:ae):ae:= {h with clock:=h.clock+1}
theorem SN{l:List (aY×List Nat)} :aB F (.draw l) e h Q↔aU F h.clock l e (tick h) (Q .normal):=by
 constructor
 .rintro⟨n,x,e',h',hr,hq⟩;cases n with
  |zero=>cases hr
  |succ n=>
   rw[dg] at hr;unfold bN at hr;dsimp only at hr;cases hb:mG F (run F n) h.clock l e {h with clock:=h.clock+1} with
   |none=>simp only[hb] at hr;cases hr
   |some y=>simp only[hb] at hr;cases hr;exact⟨n,_,_,hb,hq⟩
 .rintro⟨n,e',h',hr,hq⟩;refine⟨n+1,.normal,e',h',?_,hq⟩;rw[dg];unfold bN;dsimp only;rw[show({h with clock:=h.clock+1} :ae)=tick h from rfl];simp only[hr]
theorem WG{R:Env->ae->Prop} :aG F [] e h R↔R e h:=by
 constructor
 .rintro⟨n,e',h',hr,hq⟩;cases hr;exact hq
 .intro hq;exact⟨0,e,h,rfl,hq⟩
theorem QZ{R:Env->ae->Prop} :aU F k [] e h R↔R e h:=by
 constructor
 .rintro⟨n,e',h',hr,hq⟩;cases hr;exact hq
 .intro hq;exact⟨0,e,h,rfl,hq⟩
def zp(F:Nat->Option bM)(o:aY)(e:Env)(h:ae)(R:Env->ae->Prop):Prop:=∃n e' h',cy F (run F n) o e h=some (e',h')/\R e' h'
theorem p7{l:List aY}{R:Env->ae->Prop} :aG F (o::l) e h R↔zp F o e h (fun e h=>aG F l e h R):=by
 constructor
 .rintro⟨n,e',h',hr,hq⟩;unfold oE at hr;cases hb:cy F (run F n) o e h with
  |none=>rw[hb] at hr;cases hr
  |some y=>rw[hb] at hr;exact⟨n,_,_,hb,n,_,_,hr,hq⟩
 .rintro⟨n,e1,h1,hb,m,e',h',hr,hq⟩;refine⟨max n m,e',h',?_,hq⟩;unfold oE;rw[Aw (tG (Nat.le_max_left n m)) hb];exact I7 (tG (Nat.le_max_right n m)) hr
theorem mV{lH:List Nat}{l:List (aY×List Nat)}{R:Env->ae->Prop} :aU F k ((o,lH)::l) e h R↔zp F o e h (fun e h=>still e h k lH=true/\aU F k l e h R):=by
 constructor
 .rintro⟨n,e',h',hr,hq⟩;unfold mG at hr;cases hb:cy F (run F n) o e h with
  |none=>rw[hb] at hr;cases hr
  |some y=>
   rw[hb] at hr;dsimp only at hr;cases hs:still y.1 y.2 k lH with
   |false=>rw[hs] at hr;cases hr
   |true=>rw[hs] at hr;exact⟨n,_,_,hb,hs,n,_,_,hr,hq⟩
 .rintro⟨n,e1,h1,hb,hs,m,e',h',hr,hq⟩;refine⟨max n m,e',h',?_,hq⟩;unfold mG;rw[Aw (tG (Nat.le_max_left n m)) hb];dsimp only;rw[hs];exact DK (tG (Nat.le_max_right n m)) hr
def calls:ja->Bool
 |.call _ _=>true
 |_=>false
theorem Lx{R:Env->ae->Prop}(hn:calls op=false):zp F ⟨d,none,op⟩ e h R↔ ∃v h1,bw e h op=some (v,h1)/\R (cG e d v) h1:=by
 have key:∀n,cy F (run F n) ⟨d,none,op⟩ e h=(match bw e h op with|some (v,h')=>some (cG e d v,h')|none=>none):=by
  intro n;unfold cy;simp only[wanted,cond_true];split
  .cases hn
  .rfl
 constructor
 .rintro⟨n,e',h',hr,hq⟩;rw[key] at hr;cases ho:bw e h op with
  |none=>rw[ho] at hr;cases hr
  |some y=>rw[ho] at hr;cases hr;exact⟨_,_,rfl,hq⟩
 .rintro⟨v,h1,ho,hq⟩;exact⟨0,_,_,by rw[key,ho],hq⟩
theorem uV{b c:Bool}{R:Env->ae->Prop}(hg:ak e t=.bool c):zp F ⟨d,some (t,b),op⟩ e h R↔(bif c==b then zp F ⟨d,none,op⟩ e h R else R (cG e d (.tuple #[])) h):=by
 have hw:wanted e (some (t,b))=(c==b):=by simp[wanted,hg]
 cases Mz:(c==b) with
 |true=>
  have key:∀n,cy F (run F n) ⟨d,some (t,b),op⟩ e h=cy F (run F n) ⟨d,none,op⟩ e h:=by intro n;unfold cy;dsimp only;rw[hw,Mz];rfl
  simp only[zp,key,cond_true]
 |false=>
  have key:∀n,cy F (run F n) ⟨d,some (t,b),op⟩ e h=some (cG e d (.tuple #[]),h):=by intro n;unfold cy;dsimp only;rw[hw,Mz];rfl
  simp only[zp,key,cond_false];constructor
  .rintro⟨n,e',h',hr,hq⟩;cases hr;exact hq
  .intro hq;exact⟨0,_,_,rfl,hq⟩
theorem EC{f:Operand}{args:List Operand}{R:Env->ae->Prop} :zp F ⟨d,none,.call f args⟩ e h R↔c_ F (ev e f) (tI e args) h (fun v h=>R (cG e d v) h):=by
 have key:∀n,cy F (run F n) ⟨d,none,.call f args⟩ e h=(match cU F (run F n) (ev e f) (tI e args) h with|some (v,h')=>some (cG e d v,h')|none=>none):=by intro n;rfl
 constructor
 .rintro⟨n,e',h',hr,hq⟩;rw[key] at hr;cases ho:cU F (run F n) (ev e f) (tI e args) h with
  |none=>rw[ho] at hr;cases hr
  |some y=>rw[ho] at hr;cases hr;exact⟨n,_,_,ho,hq⟩
 .rintro⟨n,v,h1,ho,hq⟩;exact⟨n,_,_,by rw[key,ho],hq⟩
theorem c_.func{f:Nat}{first caps:Array Value}{args:List Value}{R:Value->ae->Prop}(H:aF F f (first.toList++args++caps.toList) h R):c_ F (.func (.func f) first caps) args h R:=by obtain⟨n,v,h',hr,hq⟩:=H;exact⟨n,v,h',vW hr,hq⟩
theorem c_.Ox{f:Nat}{fn:bM}{first caps:Array Value}{args:List Value}{R:Value->ae->Prop}(hf:F f=some fn)(hp:fn.Bw=.Ox){v:Value}{h':ae}(hv:Sq (first.toList++args++caps.toList) h=some (v,h'))(H:R v h'):c_ F (.func (.func f) first caps) args h R:=
 ⟨0,v,h',(by simp only[AI.cU,oi,hf,hp,cond_true];exact hv),H⟩
def vD(rs:List AY)(R:Value->ae->Prop):aT->Env->ae->Prop
 |.normal,e,h=>∃vs,results e h rs=some vs/\iH vs=true/\R (result vs) h
 |.ret,e,h=>∃vs,results e h rs=some vs/\iH vs=true/\R (result vs) h
 |.exit _,_,_=>False
@[simp] theorem Km{rs R} :vD rs R .normal e h↔ ∃vs,results e h rs=some vs/\iH vs=true/\R (result vs) h:=Iff.rfl
@[simp] theorem UE{rs R} :vD rs R .ret e h↔ ∃vs,results e h rs=some vs/\iH vs=true/\R (result vs) h:=Iff.rfl
@[simp] theorem afc{rs R id} :vD rs R (.exit id) e h↔False:=Iff.rfl
theorem aF.ofP{fn:bM}{R:Value->ae->Prop}(hf:F f=some fn)(hp:fn.Bw=.no)(H:aB F fn.body (params .nil 0 args) h (vD fn.res R)):aF F f args h R:=by
 obtain⟨n,x,e',h',hr,hq⟩:=H;cases x with
 |exit id=>exact hq.elim
 |normal=>
  obtain⟨vs,hv,ho,hq⟩:=hq;refine⟨n,_,h',?_,hq⟩;unfold si oi;rw[hf];dsimp only;rw[hp];dsimp only;rw[hr];dsimp only;rw[hv];dsimp only;rw[ho];rfl
 |ret=>
  obtain⟨vs,hv,ho,hq⟩:=hq;refine⟨n,_,h',?_,hq⟩;unfold si oi;rw[hf];dsimp only;rw[hp];dsimp only;rw[hr];dsimp only;rw[hv];dsimp only;rw[ho];rfl
theorem aF.of{rs:List AY}{body:aq}{R:Value->ae->Prop}(hf:F f=some ⟨rs,body,.no⟩)(H:aB F body (params .nil 0 args) h (vD rs R)):aF F f args h R:=
 aF.ofP hf rfl H
end
structure bm(h:ae):Prop where
 wf:∀b o,h.tr.get b=some o->b<h.next
 st:∀b cs ro o s,h.tr.get b=some (.aC cs ro o s)->s<=h.clock
structure ab(S:Nat->Prop)(h h':ae):Prop where
 next:h.next<=h'.next
 clock:h.clock<=h'.clock
 same:∀b,b<h.next->¬S b->h'.tr.get b=h.tr.get b
 ok:bm h'
def aK:Nat->Prop:=fun _=>False
theorem ab.refl(ok:bm h):ab S h h:=⟨dw _,dw _,fun _ _ _=>rfl,ok⟩
theorem ab.trans'{S S₁ S₂:Nat->Prop}(a:ab S₁ h h₁)(b:ab S₂ h₁ h₂)(h1:∀b,b<h.next->S₁ b->S b)(h2:∀b,b<h.next->S₂ b->S b):ab S h h₂:=
 ⟨sD a.next b.next,sD a.clock b.clock,fun x hx hn=>by rw[b.same x (Ix hx a.next) (fun hs=>hn (h2 x hx hs)),a.same x hx (fun hs=>hn (h1 x hx hs))],b.ok⟩
theorem ab.trans(a:ab S h h₁)(b:ab S h₁ h₂):ab S h h₂:=a.trans' b (fun _ _ h=>h) (fun _ _ h=>h)
theorem ab.bU{S S':Nat->Prop}(a:ab S h h₁)(hs:∀b,b<h.next->S b->S' b):ab S' h h₁:=
 ⟨a.next,a.clock,fun b hb hn=>a.same b hb (fun h=>hn (hs b hb h)),a.ok⟩
theorem ab.bl(a:ab aK h h₁):ab S h h₁:=a.bU fun _ _ h=>h.elim
theorem ab.get{S:Nat->Prop}{h h':ae}(g:ab S h h')(ok:bm h){b:Nat}{o:o9}(hb:h.tr.get b=some o)(hs:¬S b:=by exact fun h=>h):h'.tr.get b=some o:=by rw[g.same b (ok.wf b o hb) hs,hb]
theorem bh(ok:bm h):ab aK h (tick h):=
 ⟨dw _,Nat.le_succ _,fun _ _ _=>rfl,⟨ok.wf,fun b cs ro o s hb=>Nat.le_succ_of_le (ok.st b cs ro o s hb)⟩⟩
theorem aP(ok:bm h)(cs:List Value)(o:Nat):ab aK h (aJ h cs o):=by
 refine⟨Nat.le_succ _,dw _,fun b hb _=>?_,⟨fun b ob hb=>?_,fun b Uv ro o' s hb=>?_⟩⟩
 .simp only[aJ,ae.new,Tr.az];rw[aW (by omega)]
 .simp only[aJ,ae.new,Tr.az] at hb⊢;by_cases e:b=h.next
  .omega
  .rw[aW e] at hb;exact Nat.lt_succ_of_lt (ok.wf b ob hb)
 .simp only[aJ,ae.new,Tr.az] at hb⊢;by_cases e:b=h.next
  .rw[aZ e] at hb;cases hb;exact Nat.zero_le _
  .rw[aW e] at hb;exact ok.st b Uv ro o' s hb
@[simp] theorem bS(h:ae)(cs:List Value)(o:Nat):(aJ h cs o).tr.get h.next=some (.aC cs false o 0):=by simp[aJ,ae.new,Tr.az]
@[simp] theorem abF(h:ae)(cs:List Value)(o:Nat):(aJ h cs o).next=h.next+1:=rfl
@[simp] theorem H0(h:ae)(cs:List Value)(o:Nat):(aJ h cs o).clock=h.clock:=rfl
@[simp] theorem afF(h:ae):(tick h).next=h.next:=rfl
@[simp] theorem alz(h:ae):(tick h).tr=h.tr:=rfl
theorem bV{ro:Bool}{o s:Nat}(hb:h.tr.get b=some (.aC cs ro o s))(hl:off+n<=cs.length):
  aV h b off n=some ((cs.drop off).take n):=by
 unfold aV;rw[hb];have:((cs.drop off).take n).length=n:=by simp;omega
 simp[this]
theorem ay(h:ae)(b off n:Nat):aV (tick h) b off n=aV h b off n:=rfl
def put(h:ae)(b off:Nat)(cs vs:List Value)(o:Nat):ae:= {h with clock:=h.clock+1,tr:=h.tr.set b (.aC (aH cs off vs) false o h.clock)}
@[simp] theorem aD(h:ae)(b off:Nat)(cs vs:List Value)(o:Nat):(put h b off cs vs o).tr.get b=some (.aC (aH cs off vs) false o h.clock):=by simp[put,Tr.az]
theorem aQ(ok:bm h){cs vs:List Value}{o s:Nat}(hb:h.tr.get b=some (.aC cs false o s)):ab (· =b) h (put h b off cs vs o):=by
 refine⟨dw _,Nat.le_succ _,fun x hx hn=>?_,⟨fun x ob hx=>?_,fun x Uv ro o' s' hx=>?_⟩⟩
 .simp only[put,Tr.az];rw[aW hn]
 .simp only[put,Tr.az] at hx⊢;by_cases e:x=b
  .subst e;exact ok.wf _ _ hb
  .rw[aW e] at hx;exact ok.wf x ob hx
 .simp only[put,Tr.az] at hx⊢;by_cases e:x=b
  .rw[aZ e] at hx;cases hx;exact Nat.le_succ _
  .rw[aW e] at hx;exact Nat.le_succ_of_le (ok.st x Uv ro o' s' hx)
theorem ou(ok:bm h)(b:Nat):ab (· =b) h {h with tr:=h.tr.del b} :=by
 refine⟨dw _,dw _,fun x hx hn=>?_,⟨fun x ob hx=>?_,fun x Uv ro o' s' hx=>?_⟩⟩
 .simp only[Tr.kA];rw[aW hn]
 .simp only[Tr.kA] at hx⊢;by_cases e:x=b
  .rw[aZ e] at hx;cases hx
  .rw[aW e] at hx;exact ok.wf x ob hx
 .simp only[Tr.kA] at hx⊢;by_cases e:x=b
  .rw[aZ e] at hx;cases hx
  .rw[aW e] at hx;exact ok.st x Uv ro o' s' hx
structure Enc(α:Type) where
 enc:α->List Value
 sz:Nat
 len:∀x,(enc x).length=sz
 pos:0<sz
 plain:∀x,(enc x).all plain=true
namespace Enc
variable{α:Type}(E:Enc α)
def flat(xs:List α):List Value:=xs.flatMap E.enc
@[simp] theorem UK:E.flat []=[]:=rfl
@[simp] theorem eL(x:α)(xs:List α):E.flat (x::xs)=E.enc x++E.flat xs:=by simp[flat]
@[simp] theorem dN(xs ys:List α):E.flat (xs++ys)=E.flat xs++E.flat ys:=by simp[flat]
@[simp] theorem bI(xs:List α):(E.flat xs).length=xs.length*E.sz:=by
 induction xs with
 |nil=>simp
 |cons x xs ih=>simp[E.len,ih,tw,Nat.add_comm]
theorem kZ(xs:List α)(i:Nat):(E.flat xs).drop (i*E.sz)=E.flat (xs.drop i):=by
 induction xs generalizing i with
 |nil=>simp
 |cons x xs ih=>
  cases i with
  |zero=>simp
  |succ i=>
   rw[eL,List.drop_succ_cons,<-ih i,List.drop_append,E.len,show(i+1)*E.sz-E.sz=i*E.sz by rw[tw];omega];have:(E.enc x).drop ((i+1)*E.sz)=[]:=by apply UO;rw[E.len,tw];omega
   rw[this,List.nil_append]
theorem gW(xs:List α)(i:Nat):(E.flat xs).take (i*E.sz)=E.flat (xs.take i):=by
 induction xs generalizing i with
 |nil=>simp
 |cons x xs ih=>
  cases i with
  |zero=>simp
  |succ i=>
   rw[eL,List.take_succ_cons,eL,<-ih i,List.take_append,E.len,show(i+1)*E.sz-E.sz=i*E.sz by rw[tw];omega];have:(E.enc x).take ((i+1)*E.sz)=E.enc x:=by apply YW;rw[E.len,tw];omega
   rw[this]
theorem lL(xs:List α)(i:Nat)(x:α)(h:xs[i]?=some x):((E.flat xs).drop (i*E.sz)).take E.sz=E.enc x:=by rw[kZ];have hl:=(cr.mp h).1;rw[List.drop_eq_getElem_cons hl,eL,List.take_append,E.len,Nat.sub_self,List.take_zero,List.append_nil,(cr.mp h).2];exact YW (by rw[E.len];exact dw _)
theorem lx(xs:List α)(i off n:Nat)(x:α)(h:xs[i]?=some x)(hn:off+n<=E.sz):((E.flat xs).drop (i*E.sz+off)).take n=((E.enc x).drop off).take n:=by rw[<-lL E xs i x h,<-List.drop_drop,List.drop_take,List.take_take,Nat.min_eq_left (by omega)]
theorem eD(xs:List α)(i:Nat)(x:α)(h:i<xs.length):aH (E.flat xs) (i*E.sz) (E.enc x)=E.flat (xs.set i x):=by unfold aH;rw[gW,E.len,show i*E.sz+E.sz=(i+1)*E.sz by rw[tw];omega,kZ,List.set_eq_take_append_cons_drop,aZ h,dN,eL,vu]
end Enc
def bc{α:Type}(E:Enc α)(h:ae)(v:Value)(xs:List α):Prop:=
 ∃a cap,v=.slice a xs.length cap/\((xs=[]/\(a=none\/∃b off,a=some ⟨b,off,none⟩))\/∃b off cs ro o s,a=some ⟨b,off,none⟩/\h.tr.get b=some (.aC cs ro o s)/\off+xs.length*E.sz<=cs.length/\(cs.drop off).take (xs.length*E.sz)=E.flat xs)
def ax(v:Value)(b:Nat):Prop:=∃off n cap,v=.slice (some ⟨b,off,none⟩) n cap
theorem bc.grow{E:Enc α}{xs:List α}(s:bc E h v xs)(ok:bm h)(g:ab S h h')(hs:∀b,ax v b->¬S b):bc E h' v xs:=by
 obtain⟨a,cap,rfl,s⟩:=s;refine⟨a,cap,rfl,?_⟩;rcases s with s|⟨b,off,cs,ro,o,st,rfl,hb,hl,hc⟩
 .exact .inl s
 .exact .inr ⟨b,off,cs,ro,o,st,rfl,g.get ok hb (hs b ⟨_,_,_,rfl⟩),hl,hc⟩
theorem bc.bl{E:Enc α}{xs:List α}(s:bc E h v xs)(ok:bm h)(g:ab aK h h'):bc E h' v xs:=s.grow ok g fun _ _ h=>h
theorem bc.nil{α:Type}(E:Enc α)(h:ae)(cap:Nat):bc E h (.slice none 0 cap) []:=⟨none,cap,rfl,.inl ⟨rfl,.inl rfl⟩⟩
theorem bc.read{E:Enc α}{xs:List α}(s:bc E h v xs){i:Nat}{x:α}(hi:xs[i]?=some x):
  ∃b off cap,v=.slice (some ⟨b,off,none⟩) xs.length cap/\i<xs.length/\(∃cs ro o s,h.tr.get b=some (.aC cs ro o s))/\∀o n,o+n<=E.sz->aV h b (off+i*E.sz+o) n=some (((E.enc x).drop o).take n):=by
 obtain⟨a,cap,rfl,s⟩:=s;have hl:=(cr.mp hi).1;rcases s with s|⟨b,off,cs,ro,o,st,rfl,hb,bY,hc⟩
 .rw[s.1] at hl;simp at hl
 .refine⟨b,off,cap,rfl,hl,⟨_,_,_,_,hb⟩,fun o' n hn=>?_⟩;have h1:(i+1)*E.sz<=xs.length*E.sz:=DX _ hl;rw[tw] at h1;rw[bV hb (by omega)];congr 1;rw[<-E.lx xs i o' n x hi hn,<-hc,List.drop_take,List.take_take,List.drop_drop,Nat.min_eq_left (by omega),BW]
def bH{α:Type}(E:Enc α)(n0:Nat)(h:ae)(v:Value)(xs:List α):Prop:=
 (xs=[]/\v=.slice none 0 0)\/∃b s,v=.slice (some ⟨b,0,none⟩) xs.length xs.length/\h.tr.get b=some (.aC (E.flat xs) false E.sz s)/\xs≠[]/\n0<=b
theorem bH.sl{E:Enc α}{xs:List α}(a:bH E n0 h v xs):bc E h v xs:=by
 rcases a with⟨rfl,rfl⟩|⟨b,s,rfl,hb,_,_⟩
 .exact .nil E h _
 .exact⟨_,_,rfl,.inr ⟨b,0,_,_,_,_,rfl,hb,by simp,by simp[YW]⟩⟩
theorem bH.grow{E:Enc α}{xs:List α}(a:bH E n0 h v xs)(ok:bm h)(g:ab S h h')(hs:∀b,ax v b->¬S b):bH E n0 h' v xs:=by
 rcases a with a|⟨b,s,rfl,hb,hx,hn⟩
 .exact .inl a
 .exact .inr ⟨b,s,rfl,g.get ok hb (hs b ⟨_,_,_,rfl⟩),hx,hn⟩
theorem bH.of{E:Enc α}{xs:List α}(a:bH E n0 h v xs)(o:ax v b):n0<=b:=by
 obtain⟨off,n,cap,rfl⟩:=o;rcases a with⟨_,h⟩|⟨b',s,h,_,_,hn⟩
 .cases h
 .cases h;exact hn
theorem I2{E:Enc α}{ys:List α}{z:List Value}(hz:z.length=E.sz)(s:bc E h v ys):news h z false v=some (ys.length,E.flat ys):=by
 obtain⟨a,cap,rfl,s⟩:=s;rcases s with⟨rfl,rfl|⟨b,off,rfl⟩⟩|⟨b,off,cs,ro,o,st,rfl,hb,bY,hc⟩
 .simp[news]
 .simp[news]
 .cases ys with
  |nil=>simp[news]
  |cons y ys=>
   unfold news;dsimp only;rw[show Nat.beq (y::ys).length 0=false from rfl,hz,bV hb bY,hc];rfl
end Go.AI
namespace Go.AI
variable{F:Nat->Option bM}{QD cs vs z:List Value}{QE b bytes f fo fs i id k len o off s t xs:Nat}{S:Nat->Prop}{V:Value->ae->Prop}{W:World}{args:List Operand}{c v:Value}{fov:bM}{h h' h1 h₁:ae}{op:ja}{rs:List AY}{ρ:dE}
section
variable(F:Nat->Option bM)
def Pk(d:Option Nat)(l:List aY)(e:Env)(R:Env->ae->Prop):Option (Value×ae)->Prop
 |some (v,h)=>aG F l (cG e d v) h R
 |none=>False
def Pj(k:Nat)(lH:List Nat)(d:Option Nat)(l:List (aY×List Nat))(e:Env)(R:Env->ae->Prop):Option (Value×ae)->Prop
 |some (v,h)=>still (cG e d v) h k lH=true/\aU F k l (cG e d v) h R
 |none=>False
def TQ(R:Value->ae->Prop)(h:ae):Option (List Value)->Prop
 |some vs=>iH vs=true/\R (result vs) h
 |none=>False
def abW(d:Option Nat)(l:List aY)(e:Env)(R:Env->ae->Prop):Value->ae->Prop:=fun v h=>aG F l (cG e d v) h R
def Yv(k:Nat)(lH:List Nat)(d:Option Nat)(l:List (aY×List Nat))(e:Env)(R:Env->ae->Prop):Value->ae->Prop:=fun v h=>still (cG e d v) h k lH=true/\aU F k l (cG e d v) h R
end
section
variable{F:Nat->Option bM}{Q:aT->Env->ae->Prop}{R:Env->ae->Prop}{e:Env}{h:ae}{d:Option Nat}{l:List aY}{k:Nat}{lH:List Nat}{m:List (aY×List Nat)}
@[simp] theorem aed(v:Value)(h:ae):Pk F d l e R (some (v,h))=aG F l (cG e d v) h R:=rfl
@[simp] theorem aeb(v:Value)(h:ae):Pj F k lH d m e R (some (v,h))=(still (cG e d v) h k lH=true/\aU F k m (cG e d v) h R):=rfl
@[simp] theorem aec:Pk F d l e R none=False:=rfl
@[simp] theorem aea:Pj F k lH d m e R none=False:=rfl
@[simp] theorem afb(V:Value->ae->Prop)(vs:List Value):TQ V h (some vs)=(iH vs=true/\V (result vs) h):=rfl
@[simp ↓] theorem arh:aB F .skip e h Q↔Q .normal e h:=SP
@[simp ↓] theorem auw:aB F .ret e h Q↔Q .ret e h:=Xh
@[simp ↓] theorem arf :aB F (.exit id) e h Q↔Q (.exit id) e h:=SO
@[simp ↓] theorem auy{a b:aq} :aB F (.seq a b) e h Q↔aB F a e h (Gg F b Q):=Xi
@[simp ↓] theorem alo{c:aq} :aB F (.block id c) e h Q↔aB F c e h (Fw id Q):=OM
@[simp ↓] theorem auv{l:List aY} :aB F (.ops l) e h Q↔aG F l e h (Q .normal):=Xg
@[simp ↓] theorem ard{l:List (aY×List Nat)} :aB F (.draw l) e h Q↔aU F h.clock l e (tick h) (Q .normal):=SN
@[simp ↓] theorem ari{c:Operand}{a b:aq}(hc:ev e c=.bool true):aB F (.cond c a b) e h Q↔aB F a e h Q:=xm hc
@[simp ↓] theorem alq{c:Operand}{a b:aq}(hc:ev e c=.bool false):aB F (.cond c a b) e h Q↔aB F b e h Q:=xm hc
@[simp ↓] theorem aut:aG F [] e h R↔R e h:=WG
@[simp ↓] theorem ara:aU F k [] e h R↔R e h:=QZ
@[simp ↓] theorem q_op(hn:calls op=false):aG F (⟨d,none,op⟩::l) e h R↔Pk F d l e R (bw e h op):=by
 rw[p7,Lx hn];constructor
 .rintro⟨v,h1,ho,hr⟩;rw[ho];exact hr
 .intro hr;cases ho:bw e h op with
  |none=>rw[ho] at hr;exact hr.elim
  |some x=>rw[ho] at hr;exact⟨_,_,rfl,hr⟩
@[simp ↓] theorem q_do{b:Bool}(hg:ak e t=.bool b):aG F (⟨d,some (t,b),op⟩::l) e h R↔aG F (⟨d,none,op⟩::l) e h R:=by rw[p7,uV hg,p7];simp
@[simp ↓] theorem arc{b:Bool}(hg:ak e t=.bool (!b)):aG F (⟨d,some (t,b),op⟩::l) e h R↔aG F l (cG e d (.tuple #[])) h R:=by rw[p7,uV hg];cases b<;>rfl
@[simp ↓] theorem auq{b:Bool}(hg:ak e t=.bool b):aU F k ((⟨d,some (t,b),op⟩,lH)::m) e h R↔aU F k ((⟨d,none,op⟩,lH)::m) e h R:=by rw[mV,uV hg,mV];simp
@[simp ↓] theorem alp{b:Bool}(hg:ak e t=.bool (!b)):aU F k ((⟨d,some (t,b),op⟩,lH)::m) e h R↔(still (cG e d (.tuple #[])) h k lH=true/\aU F k m (cG e d (.tuple #[])) h R):=by rw[mV,uV hg];cases b<;>rfl
@[simp ↓] theorem aur(hn:calls op=false):aU F k ((⟨d,none,op⟩,lH)::m) e h R↔Pj F k lH d m e R (bw e h op):=by
 rw[mV,Lx hn];constructor
 .rintro⟨v,h1,ho,hr⟩;rw[ho];exact hr
 .intro hr;cases ho:bw e h op with
  |none=>rw[ho] at hr;exact hr.elim
  |some x=>rw[ho] at hr;exact⟨_,_,rfl,hr⟩
theorem W7{f:Operand} :aG F (⟨d,none,.call f args⟩::l) e h R↔c_ F (ev e f) (tI e args) h (abW F d l e R):=by rw[p7,EC];rfl
theorem Qo{f:Operand} :aU F k ((⟨d,none,.call f args⟩,lH)::m) e h R↔c_ F (ev e f) (tI e args) h (Yv F k lH d m e R):=by rw[mV,EC];rfl
theorem aG.call{f:Nat}{args:List Operand}{V:Value->ae->Prop}(H:aF F f (tI e args) h V)(K:∀v h',V v h'->aG F l (cG e d v) h' R):aG F (⟨d,none,.call (.func f) args⟩::l) e h R:=by rw[W7];obtain⟨n,v,h',hr,hv⟩:=H;refine⟨n,v,h',?_,K v h' hv⟩;have:=vW hr;simpa [ev,AI.cU] using this
theorem aG.cU{f:Operand}(H:c_ F (ev e f) (tI e args) h V)(K:∀v h',V v h'->aG F l (cG e d v) h' R):aG F (⟨d,none,.call f args⟩::l) e h R:=by rw[W7];exact H.mono K
@[simp] theorem Ys :vD rs V .normal e h↔TQ V h (results e h rs):=by rw[Km];cases results e h rs<;>simp[TQ]
@[simp] theorem aeN :vD rs V .ret e h↔TQ V h (results e h rs):=by rw[UE];cases results e h rs<;>simp[TQ]
@[simp] theorem afL(t:Nat)(v:Value):cG e (some t) v=Tr.set e t v:=rfl
@[simp] theorem afK(v:Value):cG e none v=e:=rfl
@[simp] theorem am7(t:Nat):ev e (.tmp t)=ak e t:=rfl
@[simp] theorem agO(v:Value):ev e (.const v)=v:=rfl
@[simp] theorem afd(g:Nat):ev e (.global g)=.pointer (some ⟨g,0,none⟩):=rfl
@[simp] theorem akk(f:Nat):ev e (.func f)=.func (.func f) #[] #[]:=rfl
attribute [simp] Env.az
@[simp] theorem aaU(t:Nat):ak .nil t=.tuple #[]:=rfl
@[simp] theorem aev(i:Nat):params e i []=e:=rfl
@[simp] theorem abJ(i:Nat)(v:Value)(r:List Value):params e i (v::r)=params (Tr.set e i v) (i+1) r:=rfl
@[simp] theorem aj0:tI e []=[]:=rfl
@[simp] theorem afW(x:Operand)(xs:List Operand):tI e (x::xs)=ev e x::tI e xs:=rfl
@[simp] theorem ae8(op:ja):calls op=(match op with|.call _ _=>true|_=>false):=by cases op<;>rfl
attribute [simp] bw agg width pB bQ ig fq Uk unV flat cellsOf plain tv bound results result iH uU simple still
def nD(h:ae)(z:List Value)(bytes:Nat)(pM:Bool)(s x:Value):Option (Value×ae):=
 match news h z pM x with
 |some (n,cs)=>ib h z bytes s n cs
 |none=>none
@[simp ↓ high] theorem aen(z:List Value)(bytes:Nat)(pM:Bool)(s x:Operand):bw e h (.append z bytes pM s x)=nD h z bytes pM (ev e s) (ev e x):=rfl
@[simp] theorem abP(cs vs:List Value):aH cs 0 vs=vs++cs.drop vs.length:=by simp[aH]
@[simp] theorem abO(c:Value)(cs vs:List Value)(k:Nat):aH (c::cs) (k+1) vs=c::aH cs k vs:=by simp[aH,Nat.add_right_comm k 1]
@[simp] theorem abV(h:ae)(b off:Nat)(vs:List Value):iX h b off vs=match h.tr.get b with
  |some (.aC cs false o _)=>if off+vs.length<=cs.length then some (put h b off cs vs o) else none
  |_=>none:=by
 unfold iX;cases h.tr.get b with
 |none=>rfl
 |some x=>
  cases x with
  |aC cs ro o s=>
   cases ro with
   |true=>rfl
   |false=>
    dsimp only;by_cases hl:off+vs.length<=cs.length<;>simp[hl,put]
  |loop=>rfl
  |map=>rfl
@[simp] theorem ag(h:ae)(b off n:Nat):aV h b off n=match h.tr.get b with
  |some (.aC cs _ _ _)=>if off+n<=cs.length then some ((cs.drop off).take n) else if n=0 then some [] else none
  |_=>none:=by
 unfold aV;cases h.tr.get b with
 |none=>rfl
 |some x=>
  cases x with
  |aC cs ro o s=>
   dsimp only;have he:((cs.drop off).take n).length=min n (cs.length-off):=by simp
   by_cases hl:off+n<=cs.length
   .have:((cs.drop off).take n).length=n:=by omega
    simp[hl,this]
   .simp only[hl,if_false];by_cases hn:n=0
    .subst hn;simp
    .have:¬((cs.drop off).take n).length=n:=by omega
     have hb:Nat.beq ((cs.drop off).take n).length n=false:=by
      cases hb:Nat.beq ((cs.drop off).take n).length n with
      |true=>exact absurd (mH hb) this
      |false=>rfl
     simp only[hb,hn,if_false,Nt]
  |loop=>rfl
  |map=>rfl
theorem v8(h:ae)(cs:List Value)(o b:Nat):(aJ h cs o).tr.get b=if b=h.next then some (.aC cs false o 0) else h.tr.get b:=by simp[aJ,ae.new,Tr.az]
theorem oq(h:ae)(b off:Nat)(cs vs:List Value)(o j:Nat):(put h b off cs vs o).tr.get j=if j=b then some (.aC (aH cs off vs) false o h.clock) else h.tr.get j:=by simp[put,Tr.az]
attribute [simp] v8 oq
@[simp] theorem ajh(h:ae)(b off:Nat)(cs vs:List Value)(o:Nat):(put h b off cs vs o).next=h.next:=rfl
@[simp] theorem ae9(h:ae)(b off:Nat)(cs vs:List Value)(o:Nat):(put h b off cs vs o).clock=h.clock+1:=rfl
@[simp] theorem ach(h:ae):(tick h).clock=h.clock+1:=rfl
theorem ab.new(g:ab S h h₁)(cs:List Value)(o:Nat):ab S h (aJ h₁ cs o):=g.trans (aP g.ok cs o).bl
theorem ab.tick{S:Nat->Prop}{h h₁:ae}(g:ab S h h₁):ab S h (tick h₁):=g.trans (bh g.ok).bl
theorem ab.put{S:Nat->Prop}{h h₁:ae}{b off:Nat}{cs vs:List Value}{o:Nat}(g:ab S h h₁)(hb:∃s,h₁.tr.get b=some (.aC cs false o s))(hn:h.next<=b\/S b):ab S h (put h₁ b off cs vs o):=by
 obtain⟨s,hb⟩:=hb;refine g.trans' (aQ g.ok hb) (fun _ _ h=>h) fun x hx e=>?_;rcases hn with hn|hn
 .omega
 .rw[e];exact hn
@[simp] theorem agu(p:Value->Bool):([]:List Value).all p=true:=rfl
end
section
variable{F:Nat->Option bM}{Q:aT->Env->ae->Prop}{e:Env}{h:ae}
def DL(h:ae)(l:Nat):ae:= {h with tr:=h.tr.del l}
def vG(l:Nat)(e:Env)(Q:aT->Env->ae->Prop)(h:ae):Prop:=
 match h.tr.get l with
 |some (.loop _ _ _ _ .ready)=>Q .normal e (DL h l)
 |some (.loop _ _ _ _ (.done none))=>Q .ret e (DL h l)
 |some (.loop _ _ _ _ (.done (some id)))=>Q (.exit id) e (DL h l)
 |_=>False
theorem aB.Qr{f:Operand}{ps:List Nat}{asg body:aq}{g:Nat}{first caps:Array Value}(hf:ev e f=.func (.func g) first caps)(H:aF F g (first.toList++[.func (.yield h.next) #[] #[]]++caps.toList) (h.new (.loop e ps asg body .ready)) (fun _ h'=>vG h.next e Q h')):aB F (.Qr f ps asg body) e h Q:=by
 obtain⟨n,v,h',hr,hq⟩:=H;have cR:run F (n+1) (.Qr f ps asg body) e h=(match h'.tr.get h.next with
    |some (.loop _ _ _ _ .ready)=>some (.normal,e,{h' with tr:=h'.tr.del h.next})
    |some (.loop _ _ _ _ (.done none))=>some (.ret,e,{h' with tr:=h'.tr.del h.next})
    |some (.loop _ _ _ _ (.done (some id)))=>some (.exit id,e,{h' with tr:=h'.tr.del h.next})
    |_=>none):=by
  rw[dg];unfold bN;dsimp only;rw[hf];dsimp only;rw[hr];rfl
 unfold vG at hq;split at hq
 .rename_i hg;rw[hg] at cR;exact⟨n+1,_,_,_,cR,hq⟩
 .rename_i hg;rw[hg] at cR;exact⟨n+1,_,_,_,cR,hq⟩
 .rename_i hg;rw[hg] at cR;exact⟨n+1,_,_,_,cR,hq⟩
 .exact hq.elim
def T8(l:Nat)(env:Env)(ps:List Nat)(asg body:aq)(R:Value->ae->Prop):aT->Env->ae->Prop
 |.normal,_,h=>(∃a b c d,h.tr.get l=some (.loop a b c d .busy)/\a=env/\b=ps/\c=asg/\d=body)/\R (.bool true) (fB h l env ps asg body .ready)
 |.ret,_,h=>(∃a b c d,h.tr.get l=some (.loop a b c d .busy)/\a=env/\b=ps/\c=asg/\d=body)/\R (.bool false) (fB h l env ps asg body (.done none))
 |.exit id,_,h=>(∃a b c d,h.tr.get l=some (.loop a b c d .busy)/\a=env/\b=ps/\c=asg/\d=body)/\R (.bool false) (fB h l env ps asg body (.done (some id)))
theorem c_.yield{l:Nat}{env:Env}{ps:List Nat}{asg body:aq}{a b:Array Value}{args:List Value}{R:Value->ae->Prop}{e1:Env}(hl:h.tr.get l=some (.loop env ps asg body .ready))(hs:gU env ps args=some e1)(H:aB F asg e1 h (fun x e2 h2=>x=.normal/\h2.tr.get l=some (.loop env ps asg body .ready)/\aB F body e2 (fB h2 l env ps asg body .busy) (T8 l env ps asg body R))):c_ F (.func (.yield l) a b) args h R:=by
 obtain⟨n,x,e2,h2,hr,rfl,sE,m,y,e3,h3,hr3,hq⟩:=H;have hra:=tG (Nat.le_max_left n m) _ _ _ _ hr;have Yl:=tG (Nat.le_max_right n m) _ _ _ _ hr3;have key:cU F (run F (max n m)) (.func (.yield l) a b) args h=(match(y,e3,h3) with
   |(.normal,_,h)=>ny l h .ready true
   |(.ret,_,h)=>ny l h (.done none) false
   |(.exit id,_,h)=>ny l h (.done (some id)) false:Option (Value×ae)):=by
  clear hq;unfold cU;dsimp only;unfold uX;rw[hl];dsimp only;rw[hs];dsimp only;rw[hra];dsimp only;unfold y_;rw[sE];dsimp only;simp only[Yl];cases y<;>rfl
 cases y with
 |normal=>
  obtain⟨⟨_,_,_,_,hg,rfl,rfl,rfl,rfl⟩,hq⟩:=hq;exact⟨max n m,_,_,by rw[key];dsimp only;unfold ny;rw[hg],hq⟩
 |ret=>
  obtain⟨⟨_,_,_,_,hg,rfl,rfl,rfl,rfl⟩,hq⟩:=hq;exact⟨max n m,_,_,by rw[key];dsimp only;unfold ny;rw[hg],hq⟩
 |exit id=>
  obtain⟨⟨_,_,_,_,hg,rfl,rfl,rfl,rfl⟩,hq⟩:=hq;exact⟨max n m,_,_,by rw[key];dsimp only;unfold ny;rw[hg],hq⟩
end
theorem wrap_i64(n:Int)(h: -9223372036854775808<=n)(h':n<9223372036854775808):IntKind.i64.wrap n=n:=by simp only[IntKind.wrap,IntKind.signed,IntKind.bits];simp;omega
def Old(b:Nat)(h:ae):Prop:=b<h.next
theorem Old.lt(o:Old b h):b<h.next:=o
@[simp] theorem TH(h:ae)(cs:List Value)(o:Nat):Old h.next (aJ h cs o):=Nat.lt_succ_self _
@[simp] theorem Sc(h:ae)(cs:List Value)(o:Nat):Old h.next (aJ h cs o)=True:=by simp
@[simp] theorem ali(b:Nat)(h:ae)(c off:Nat)(cs vs:List Value)(o:Nat):Old b (put h c off cs vs o)↔Old b h:=Iff.rfl
@[simp] theorem ajp(b:Nat)(h:ae):Old b (tick h)↔Old b h:=Iff.rfl
@[simp] theorem aej(H:Old b h):Old b (aJ h cs o):=Nat.lt_succ_of_lt H
@[simp] theorem aqG(H:Old b h):(b=h.next)=False:=by have:b<h.next:=H;exact propext ⟨fun e=>by omega,False.elim⟩
@[simp] theorem alg(H:Old b h):(h.next=b)=False:=by have:b<h.next:=H;exact propext ⟨fun e=>by omega,False.elim⟩
@[simp] theorem alh(H:Old b h):(b=h.next+k)=False:=by have:b<h.next:=H;exact propext ⟨fun e=>by omega,False.elim⟩
@[simp] theorem ajo(H:Old b h):(h.next+k=b)=False:=by have:b<h.next:=H;exact propext ⟨fun e=>by omega,False.elim⟩
theorem ab.bC(g:ab S h h')(H:Old b h):Old b h':=Ix H g.next
theorem ab.got(g:ab aK h h')(H:Old b h):h'.tr.get b=h.tr.get b:=g.same b H (fun h=>h)
theorem bm.bC(ok:bm h){o:o9}(hb:h.tr.get b=some o):Old b h:=ok.wf _ _ hb
theorem ab.var(g:ab S h h₁)(zs vs:List Value):ab S h (AI.put (AI.aJ h₁ zs 0) h₁.next 0 zs vs 0):=
 (g.new zs 0).put ⟨_,bS _ _ _⟩ (.inl g.next)
theorem DU(H:Old b h)(cs:List Value)(o:Nat):(aJ h cs o).tr.get b=h.tr.get b:=by rw[v8,aW (by intro e;have:=H.lt;omega)]
theorem aN(H:Old b h)(cs:List Value)(o off n:Nat):aV (aJ h cs o) b off n=aV h b off n:=by unfold aV;rw[v8,aW (by intro e;have:=H.lt;omega)]
theorem aX{b c:Nat}(H:¬b=c)(cs vs:List Value)(o off Oo n:Nat):aV (put h c Oo cs vs o) b off n=aV h b off n:=by unfold aV;rw[oq,aW H]
theorem av{ro:Bool}(hb:h.tr.get b=some (.aC cs ro o s))(off n:Nat):aV h b off n=if off+n<=cs.length then some ((cs.drop off).take n) else if n=0 then some [] else none:=by rw[ag,hb]
theorem au(h:ae)(b Oo:Nat)(cs vs:List Value)(o off n:Nat):aV (put h b Oo cs vs o) b off n=if off+n<=(aH cs Oo vs).length then some (((aH cs Oo vs).drop off).take n) else if n=0 then some [] else none:=
 av (aD h b Oo cs vs o) off n
theorem iy(h:ae)(cs:List Value)(o off n:Nat):aV (aJ h cs o) h.next off n=if off+n<=cs.length then some ((cs.drop off).take n) else if n=0 then some [] else none:=
 av (bS h cs o) off n
theorem DV(o:o9)(H:Old b h):(h.new o).tr.get b=h.tr.get b:=by simp only[ae.new,Tr.az];rw[aW (by intro e;have:=H.lt;omega)]
theorem vG.ready{l:Nat}{e:Env}{QQ:aT->Env->ae->Prop}{h:ae}{a:Env}{b:List Nat}{c d:aq}(hl:h.tr.get l=some (.loop a b c d .ready))(H:QQ .normal e (DL h l)):vG l e QQ h:=by unfold vG;rw[hl];exact H
section
variable{F:Nat->Option bM}{Q:aT->Env->ae->Prop}{R:Env->ae->Prop}{e:Env}{h:ae}{l:List aY}{k:Nat}{m:List (aY×List Nat)}
theorem aB.cut{c:aq}(P:ae->Prop)(hp:P h1)(K:∀h',P h'->aB F c e h' Q):aB F c e h1 Q:=K h1 hp
theorem aG.cut(P:ae->Prop)(hp:P h1)(K:∀h',P h'->aG F l e h' R):aG F l e h1 R:=K h1 hp
theorem aU.cut(P:ae->Prop)(hp:P h1)(K:∀h',P h'->aU F k m e h' R):aU F k m e h1 R:=K h1 hp
theorem aU.call{d:Option Nat}{f:Nat}{args:List Operand}{lH:List Nat}{V:Value->ae->Prop}(H:aF F f (tI e args) h V)(K:∀v h',V v h'->still (cG e d v) h' k lH=true/\aU F k m (cG e d v) h' R):aU F k ((⟨d,none,.call (.func f) args⟩,lH)::m) e h R:=by rw[Qo];obtain⟨n,v,h',hr,hv⟩:=H;refine⟨n,v,h',?_,K v h' hv⟩;have:=vW hr;simpa [ev,AI.cU] using this
theorem aU.cU{d:Option Nat}{f:Operand}{lH:List Nat}(H:c_ F (ev e f) (tI e args) h V)(K:∀v h',V v h'->still (cG e d v) h' k lH=true/\aU F k m (cG e d v) h' R):aU F k ((⟨d,none,.call f args⟩,lH)::m) e h R:=by rw[Qo];exact H.mono K
end
def sH(z:List Value)(o bytes fo fs:Nat):aq:=(G_ [o_ 6 (.mv (.const (.slice none 0 0)))] (G_ [m_ 10 0,m_ 11 1,o_ 12 (.slice o (t_ 10) (some (t_ 11)) none none)] (G_ [m_ 13 2,z_ 14 13,m_ 7 14] (J_ (G_ [m_ 15 7,o_ 16 (.bin .eql [1] (t_ 15) (i_ 0))] (I_ 16 (G_ [m_ 17 0,m_ 6 17] .ret) .skip)) (G_ [m_ 18 0,z_ 19 18,m_ 8 19] (J_ (G_ [m_ 20 1,m_ 21 8,o_ 22 (.bin .eql [1] (t_ 20) (t_ 21))] (I_ 22 (G_ [m_ 23 0,m_ 24 2,o_ 25 (.append z bytes false (t_ 23) (t_ 24)),m_ 6 25] .ret) .skip)) (J_ (G_ [m_ 26 8,m_ 27 7,B_ 28 .add 26 27,m_ 29 0,o_ 30 (.MU (t_ 29)),B_ 31 .gtr 28 30] (I_ 31 (G_ [m_ 32 0,m_ 33 1,o_ 34 (.slice o (t_ 32) none (some (t_ 33)) none),m_ 35 8,m_ 36 7,B_ 37 .add 35 36,m_ 38 1,B_ 39 .sub 37 38,o_ 40 (.append z bytes true (t_ 34) (t_ 39)),m_ 9 40] (G_ [m_ 41 9,m_ 42 1,o_ 43 (.slice o (t_ 41) (some (t_ 42)) none none),m_ 44 2,o_ 45 (.copy o (t_ 43) (t_ 44))] (J_ (V_ [D_ (m_ 46 9),D_ (m_ 47 1),D_ (m_ 48 7),D_ (B_ 49 .add 47 48),(o_ 50 (.slice o (t_ 46) (some (t_ 49)) none none),[]),D_ (m_ 51 0),D_ (m_ 52 1),(o_ 53 (.slice o (t_ 51) (some (t_ 52)) none none),[]),(o_ 54 (.copy o (t_ 50) (t_ 53)),[])]) (G_ [m_ 55 9,m_ 6 55] .ret)))) .skip)) (G_ [m_ 56 0,m_ 57 8,m_ 58 7,B_ 59 .add 57 58,o_ 60 (.slice o (t_ 56) none (some (t_ 59)) none),m_ 0 60] (J_ (G_ [m_ 61 2,m_ 62 0,m_ 63 1,m_ 64 7,B_ 65 .add 63 64,o_ 66 (.slice o (t_ 62) (some (t_ 65)) none none),o_ 67 (.call (.func fo) [t_ 61,t_ 66]),o_ 68 (.un .not (t_ 67))] (I_ 68 (J_ (V_ [D_ (m_ 69 0),D_ (m_ 70 1),D_ (m_ 71 7),D_ (B_ 72 .add 70 71),(o_ 73 (.slice o (t_ 69) (some (t_ 72)) none none),[]),D_ (m_ 74 0),D_ (m_ 75 1),(o_ 76 (.slice o (t_ 74) (some (t_ 75)) none none),[]),(o_ 77 (.copy o (t_ 73) (t_ 76)),[])]) (G_ [m_ 78 0,m_ 79 1,o_ 80 (.slice o (t_ 78) (some (t_ 79)) none none),m_ 81 2,o_ 82 (.copy o (t_ 80) (t_ 81))] (G_ [m_ 83 0,m_ 6 83] .ret))) .skip)) (G_ [m_ 84 0,m_ 85 8,o_ 86 (.slice o (t_ 84) (some (t_ 85)) none none),m_ 87 2,o_ 88 (.copy o (t_ 86) (t_ 87))] (G_ [m_ 89 0,m_ 90 1,o_ 91 (.slice o (t_ 89) (some (t_ 90)) none none),m_ 92 7,o_ 93 (.call (.func fs) [t_ 91,t_ 92])] (G_ [m_ 94 0,m_ 6 94] .ret))))))))))))
def aI(cs vs:List Value)(off i len o:Nat):List Value:=(cs.drop off).take (i*o)++vs++(cs.drop (off+i*o)).take ((len-i)*o)
theorem adZ(hv:vs.length=o)(hi:i<len)(hl:off+(len+1)*o<=cs.length):
  aH (aH cs (off+(i+1)*o) ((cs.drop (off+i*o)).take ((len-i)*o))) (off+i*o) vs=cs.take off++aI cs vs off i len o++cs.drop (off+(len+1)*o):=by
 have e2:(i+1)*o=i*o+o:=by rw[tw];omega
 have e3:(len+1)*o=len*o+o:=by rw[tw];omega
 have e4:i*o+(len-i)*o=len*o:=by rw[<-tw];congr 1;omega
 have hT:((cs.drop (off+i*o)).take ((len-i)*o)).length=(len-i)*o:=by simp;omega
 unfold aH aI;rw[hT,hv];have a1:(cs.take (off+(i+1)*o)++(cs.drop (off+i*o)).take ((len-i)*o)++cs.drop (off+(i+1)*o+(len-i)*o)).take (off+i*o)=cs.take off++(cs.drop off).take (i*o):=by rw[vu,List.take_append_of_le_length (by simp;omega),List.take_take,Nat.min_eq_left (by omega),List.take_add]
 have a2:(cs.take (off+(i+1)*o)++(cs.drop (off+i*o)).take ((len-i)*o)++cs.drop (off+(i+1)*o+(len-i)*o)).drop (off+i*o+o)=(cs.drop (off+i*o)).take ((len-i)*o)++cs.drop (off+(len+1)*o):=by
  rw[vu,List.drop_append,List.length_take,Nat.min_eq_left (by omega),show off+i*o+o-(off+(i+1)*o)=0 by omega,List.drop_zero,
   UO (by simp;omega),List.nil_append,show off+(i+1)*o+(len-i)*o=off+(len+1)*o by omega]
 rw[a1,a2];simp only[vu]
theorem VO(hf:F f=some ⟨[.tmp 6],sH z o bytes fo fs,.no⟩)(Ve:F fo=some fov)(AU:fov.Bw=.Ox)(ho:0<o){b off len cap i x xo xc:Nat}(hi:i<len)(D4:len<cap)(bY:len<1000000)(hb:h.tr.get b=some (.aC cs false 0 s))(hl:off+cap*o<=cs.length)(hx:h.tr.get x=some (.aC QD false QE xs))(uk:aV h x xo o=some vs)(Tp:b≠x):
  aF F f [.slice (some ⟨b,off,none⟩) len cap,.int .i64 i,.slice (some ⟨x,xo,none⟩) 1 xc] h (fun v h'=>v=.slice (some ⟨b,off,none⟩) (len+1) cap/\h'.next=h.next/\h.clock<=h'.clock/\
   (∀y,y<h.next->y≠b->h'.tr.get y=h.tr.get y)/\∃s',h'.tr.get b=some (.aC (cs.take off++aI cs vs off i len o++cs.drop (off+(len+1)*o)) false 0 s')):=by
 obtain⟨L,hL⟩:∃L,L=len+1:=⟨_,rfl⟩;obtain⟨I,hI⟩:∃I,I=i+1:=⟨_,rfl⟩;rw[<-hL];have w1:IntKind.i64.wrap ((len:Int)+1)=(L:Int):=by rw[wrap_i64 _ (by omega) (by omega)];omega
 have w3:IntKind.i64.wrap ((i:Int)+1)=(I:Int):=by rw[wrap_i64 _ (by omega) (by omega)];omega
 have q1:((i:Int)==(len:Int))=false:=by simp;omega
 have q2:¬cap<L:=by omega
 have q2':L<=cap:=by omega
 have q3:i<=len:=by omega
 have q6:i<=L:=by omega
 have q7:I<=L:=by omega
 have q8:Nat.min 1 (L-i)=1:=by show min 1 (L-i)=1;omega
 have q9:Nat.min (L-i) (L-I)=len-i:=by show min (L-i) (L-I)=len-i;omega
 have y9:¬len-i=0:=by omega
 have m1:i*o+(len-i)*o=len*o:=by rw[<-tw];congr 1;omega
 have m2:L*o=len*o+o:=by rw[hL,tw];omega
 have m3:I*o=i*o+o:=by rw[hI,tw];omega
 have m4:L*o<=cap*o:=DX _ q2';have Yf:vs.length=o:=by
  unfold aV at uk;rw[hx] at uk;dsimp only at uk;split at uk
  .rename_i hh;cases uk;exact mH hh
  .cases uk
 have Hq:aV h b (off+i*o) ((len-i)*o)=some ((cs.drop (off+i*o)).take ((len-i)*o)):=bV hb (by omega);have Ax:((cs.drop (off+i*o)).take ((len-i)*o)).length=(len-i)*o:=by simp;omega
 have CO:min ((len-i)*o) (cs.length-(off+i*o))=(len-i)*o:=by omega
 have WZ:off+I*o+(len-i)*o<=cs.length:=by omega
 have q18:(aH cs (off+I*o) ((cs.drop (off+i*o)).take ((len-i)*o))).length=cs.length:=by simp[aH];omega
 have q19:off+i*o+o<=cs.length:=by omega
 have q20:¬x=b:=fun e=>Tp e.symm;refine aF.of hf ?_;unfold sH;simp[w1,w3,q1,q2,q2',q3,q6,q7,q8,q9,y9,hb];refine aG.cU (V:=fun v h'=>v=.bool false/\h'=h) (c_.Ox Ve AU (v:=.bool false) (h':=h) ?_ ⟨rfl,rfl⟩) ?_
 .have FW:Nat.beq x b=false:=by
   cases e:Nat.beq x b with
   |true=>exact absurd (mH e) q20
   |false=>rfl
  simp[Sq,hx,hb,FW]
 rintro _ h'⟨rfl,e⟩;subst e;simp[w1,w3,q1,q2,q2',q3,q6,q7,q8,q9,y9,hb,Hq,ay,aX,uk,Yf,Ax,CO,WZ,q18,q19,q20,-ag];refine⟨by omega,fun y _ hy=>by simp[hy],?_⟩;rw[hI,hL,adZ Yf hi (by rw[<-hL];omega)];simp only[vu]
section
variable{P:Program}{CC:bK}{ρ ρ₂:dE}{h h₂:ae}{w w₂:World}
theorem Uu(k:KR ρ v c)(hv:cg v=true):cg c=true:=by
 cases k with
 |cell k=>cases k<;>first|exact hv|cases hv
 |fn=>cases hv
 |yield=>cases hv
end
section
variable{P:Program}{T:oR}{ng:Nat}{F:Nat->Option bM}
theorem MP{a b c:Value}{l:List Value}(h:All2 (VR ρ) [a,b,c] l):∃x y z,l=[x,y,z]/\VR ρ a x/\VR ρ b y/\VR ρ c z:=by
 cases h with
 |cons h1 h=>cases h with
  |cons h2 h=>cases h with
   |cons h3 h=>cases h with
    |nil=>exact⟨_,_,_,rfl,h1,h2,h3⟩
theorem fh{b o len cap:Nat}(h:VR ρ (.slice (some ⟨b,o,none⟩) len cap) c):∃r ca ccap,ρ b=some r/\r7 r o len cap ca ccap/\c=.slice (some ca) len ccap:=by
 have:=CR.xd h rfl;cases this with
 |slice h' hs=>exact⟨_,_,_,h',hs,rfl⟩
end
def Jz(F:Nat->Option bM)(fo:Nat)(f:Nat):Option bM:=bif Nat.beq f fo then some ⟨[],.bad,.Ox⟩ else F f
section
variable{P:Program}{T:oR}{ng:Nat}{F:Nat->Option bM}
theorem Pe{dr:pq}(hF:Cy P T ng dr F)(ho:Pl P T fo):Cy P T ng dr (Jz F fo):=by
 intro f af h;unfold Jz at h;cases hb:Nat.beq f fo with
 |true=>
  rw[hb] at h;cases h;rw[mH hb];exact ho
 |false=>rw[hb] at h;exact hF f af h
end
theorem ZD(hf:F f=some ⟨[.tmp 6],sH z o bytes fo fs,.no⟩)(hz:z.length=o)(ho:0<o)(CI:bytes<=1000){b off len cap x xo xc:Nat}(D4:len<cap)(bY:len<1000000)(hb:h.tr.get b=some (.aC cs false 0 s))(hl:off+cap*o<=cs.length)(hx:h.tr.get x=some (.aC QD false QE xs))(uk:aV h x xo o=some vs):
  aF F f [.slice (some ⟨b,off,none⟩) len cap,.int .i64 len,.slice (some ⟨x,xo,none⟩) 1 xc] h (fun v h'=>v=.slice (some ⟨b,off,none⟩) (len+1) cap/\h'.next=h.next/\h.clock<=h'.clock/\
   (∀y,y<h.next->y≠b->h'.tr.get y=h.tr.get y)/\∃s',h'.tr.get b=some (.aC (aH cs (off+len*o) vs) false 0 s')):=by
 obtain⟨L,hL⟩:∃L,L=len+1:=⟨_,rfl⟩;rw[<-hL];have q2:L<=cap:=by omega
 have m2:L*o=len*o+o:=by rw[hL,tw];omega
 have m4:L*o<=cap*o:=DX _ q2;have Yf:vs.length=o:=by
  unfold aV at uk;rw[hx] at uk;dsimp only at uk;split at uk
  .rename_i hh;cases uk;exact mH hh
  .cases uk
 have r1:roomy L=true:=by simp[roomy];omega
 have r2:roomy (L*bytes)=true:=by have:L*bytes<=1000000*1000:=Nat.mul_le_mul (by omega) CI;simp[roomy];omega
 have q5:off+len*o+o<=cs.length:=by omega
 refine aF.of hf ?_;unfold sH;simp[hz,ho,hb,hx,uk,nD,news,ib,<-hL,r1,r2,q2,iX,Yf,q5,-ag];exact⟨fun y _ hy=>by simp[Tr.az,hy],h.clock,by simp[Tr.az]⟩
theorem G1(hf:F f=some ⟨[.tmp 6],sH z o bytes fo fs,.no⟩)(Ve:F fo=some fov)(AU:fov.Bw=.Ox)(hz:z.length=o)(ho:0<o)(CI:bytes<=1000){b off len cap i x xo xc:Nat}(hi:i<=len)(D4:len<cap)(bY:len<1000000)(hb:h.tr.get b=some (.aC cs false 0 s))(hl:off+cap*o<=cs.length)(hx:h.tr.get x=some (.aC QD false QE xs))(uk:aV h x xo o=some vs)(Tp:b≠x):
  aF F f [.slice (some ⟨b,off,none⟩) len cap,.int .i64 i,.slice (some ⟨x,xo,none⟩) 1 xc] h (fun v h'=>v=.slice (some ⟨b,off,none⟩) (len+1) cap/\h'.next=h.next/\h.clock<=h'.clock/\
   (∀y,y<h.next->y≠b->h'.tr.get y=h.tr.get y)/\∃s',h'.tr.get b=some (.aC (cs.take off++aI cs vs off i len o++cs.drop (off+(len+1)*o)) false 0 s')):=by
 rcases zf i len with h1|h1
 .exact VO hf Ve AU ho h1 D4 bY hb hl hx uk Tp
 .have:i=len:=by omega
  subst this;have m2:(i+1)*o=i*o+o:=by rw[tw];omega
  have m4:(i+1)*o<=cap*o:=DX _ (by omega);have Yf:vs.length=o:=by
   unfold aV at uk;rw[hx] at uk;dsimp only at uk;split at uk
   .rename_i hh;cases uk;exact mH hh
   .cases uk
  have e:cs.take off++aI cs vs off i i o++cs.drop (off+(i+1)*o)=aH cs (off+i*o) vs:=by unfold aI aH;rw[Nat.sub_self,Nat.zero_mul,List.take_zero,List.append_nil,<-vu,<-List.take_add,Yf,m2,BW]
  rw[e];exact ZD hf hz ho CI D4 bY hb hl hx uk
def rmV(o:Nat)(args:List Value)(h:ae):Option (Value×ae):=
 match args with
 |[.slice (some ⟨b,off,none⟩) len cap,.int .i64 (.ofNat i),.slice (some ⟨x,xo,none⟩) m _]=>
  match h.tr.get b,h.tr.get x with
  |some (.aC cs false op _),some (.aC _ false _ _)=>
   if Nat.ble i len&&Nat.blt len cap&&Nat.beq m 1&&(Nat.beq op o||Nat.beq op 0)&&Nat.ble (off+cap*o) cs.length&& !(Nat.beq b x)&&Nat.blt len 1000000 then
    match aV h x xo o with
    |some vs=>some (.slice (some ⟨b,off,none⟩) (len+1) cap,{put h b off cs (aI cs vs off i len o) op with next:=h.next+8})
    |none=>none
   else none
  |_,_=>none
 |_=>none
theorem Qq{args:List Value}(hv:rmV o args h=some (v,h')):
  ∃b off len cap i x xo xc cs op s QD QE xs vs,args=[.slice (some ⟨b,off,none⟩) len cap,.int .i64 (.ofNat i),.slice (some ⟨x,xo,none⟩) 1 xc]/\h.tr.get b=some (.aC cs false op s)/\h.tr.get x=some (.aC QD false QE xs)/\i<=len/\len<cap/\
   (op=o\/op=0)/\off+cap*o<=cs.length/\b≠x/\len<1000000/\aV h x xo o=some vs/\v=.slice (some ⟨b,off,none⟩) (len+1) cap/\h'= {put h b off cs (aI cs vs off i len o) op with next:=h.next+8} :=by
 unfold rmV at hv;split at hv
 .rename_i b off len cap i x xo m xc;split at hv
  .rename_i cs op s QD QE xs hb hx;split at hv
   .rename_i hc;simp only[uh,Bool.not_eq_true',Bool.or_eq_true] at hc;obtain⟨⟨⟨⟨⟨⟨h1,h2⟩,h3⟩,h4⟩,h5⟩,h6⟩,h7⟩:=hc;split at hv
    .rename_i vs uk;cases hv;have e3:=mH h3;subst e3;refine⟨b,off,len,cap,i,x,xo,xc,cs,op,s,QD,QE,xs,vs,rfl,hb,hx,Mv h1,by simpa [Nat.blt_eq] using h2,h4.imp mH mH,Mv h5,?_,by simpa [Nat.blt_eq] using h7,uk,rfl,rfl⟩;rintro rfl;rw[Nat.beq_refl] at h6;cases h6
    .cases hv
   .cases hv
  .cases hv
 .cases hv
theorem Hr{args:List Value}(hv:rmV o args h=some (v,h')):dm h h':=by
 obtain⟨b,off,len,cap,i,x,xo,xc,cs,op,s,QD,QE,xs,vs,_,hb,_,_,_,_,_,_,_,_,_,rfl⟩:=Qq hv;have dz:∀y,({put h b off cs (aI cs vs off i len o) op with next:=h.next+8} :ae).tr.get y=if y=b then some (.aC (aH cs off (aI cs vs off i len o)) false op h.clock) else h.tr.get y:=by intro y;simp only[put,Tr.az]
 refine⟨Nat.le_add_right _ _,Nat.le_succ _,?_,?_,?_⟩
 .intro y Uv ro o' s' hy hg hs;rw[dz] at hg;by_cases e:y=b
  .rw[aZ e] at hg;cases hg;omega
  .rwa [aW e] at hg
 .intro hwf y ob hg;rw[dz] at hg;show y<h.next+8;by_cases e:y=b
  .have:=hwf b _ hb;omega
  .rw[aW e] at hg;have:=hwf y ob hg;omega
 .intro y hy hg;rw[dz] at hg;by_cases e:y=b
  .rw[aZ e] at hg;cases hg
  .rwa [aW e] at hg
section
variable{CC:bK}{ρ:dE}{h h':ae}{w:World}
theorem cK.swap(S:cK CC ρ h w){r rk:vy}{ok ob:o9}(hk:ρ k=some rk)(dx:h.tr.get k=some ok)(Zw:ok.rw=true)(hb:ρ b=some r)(CV:r.aC=rk.aC)(Zn:h'.tr.get b=some ob)(hO:gH CC ρ r ob w)(hn:h.next<=h'.next)(hs:∀y o,y≠b->h'.tr.get y=some o->y≠k/\∃o',h.tr.get y=some o'/\o=o'):cK CC ρ h' w/\Ext ρ h w ρ h' w:=by
 have KZ:dh h k:=⟨ok,dx,Zw⟩;refine⟨⟨fun x rx hx=>⟨Ix (S.low x rx hx).1 hn,(S.low x rx hx).2⟩,?_,?_,?_⟩,⟨ρ.le_refl,hn,dw _,rfl,rfl,rfl,fun _ _ _=>rfl,?_,fun x r h1 h2=>(by rw[h1] at h2;cases h2),?_⟩⟩
 .intro x rx o hx ho;by_cases e:x=b
  .subst e;rw[hb] at hx;cases hx;rw[Zn] at ho;cases ho;exact hO
  .obtain⟨_,o',h1,rfl⟩:=hs x o e ho;exact S.obj x rx o hx h1
 .intro x y rx ry o hx hy ⟨q,hq,IG⟩ ho cq;by_cases e1:x=b
  .subst e1;rw[hb] at hx;cases hx;obtain⟨h2,o',h1,rfl⟩:=hs y o (Ne.symm cq) ho;rw[CV];exact S.inj k y rk ry o hk hy KZ h1 (Ne.symm h2)
  .obtain⟨h3,q',h4,rfl⟩:=hs x q e1 hq;by_cases e2:y=b
   .subst e2;rw[hb] at hy;cases hy;rw[CV];exact S.inj x k rx rk ok hx hk ⟨q,h4,IG⟩ dx h3
   .obtain⟨h2,o',h1,rfl⟩:=hs y o e2 ho;exact S.inj x y rx ry o hx hy ⟨q,h4,IG⟩ h1 cq
 .intro x o hx;by_cases e:x=b
  .subst e;exact Ix (S.low x r hb).1 hn
  .obtain⟨_,o',h1,rfl⟩:=hs x o e hx;exact Ix (S.wf x o h1) hn
 .intro x rx hx ⟨q,hq,IG⟩;by_cases e:x=b
  .subst e;rw[hb] at hx;cases hx;exact .inr ⟨k,rk,hk,KZ,CV.symm⟩
  .obtain⟨_,o',h1,rfl⟩:=hs x q e hq;exact .inr ⟨x,rx,hx,⟨q,h1,IG⟩,rfl⟩
 .intro x rx o hx ho;by_cases e:x=b
  .subst e;rw[hb] at hx;cases hx;exact .inr ⟨k,rk,ok,hk,dx,CV.symm⟩
  .obtain⟨_,o',h1,rfl⟩:=hs x o e ho;exact .inr ⟨x,rx,o,hx,h1,rfl⟩
end
theorem Oc(hi:i<=len)(hv:vs.length=o)(hl:off+len*o<=cs.length):cs.take off++aI cs vs off i len o++cs.drop (off+(len+1)*o)=aH cs off (aI cs vs off i len o)/\(aI cs vs off i len o).length=(len+1)*o:=by
 have h1:i*o+(len-i)*o=len*o:=by rw[<-tw];congr 1;omega
 have h2:(aI cs vs off i len o).length=(len+1)*o:=by simp only[aI,GJ,List.length_take,List.length_drop,hv,tw];omega
 exact⟨by unfold aH;rw[h2],h2⟩
section
variable{P:Program}{T:oR}{ng:Nat}{F:Nat->Option bM}
theorem SG(hF:Cy P T ng (dY T ng) F)(hT:cu P T)(hf:F f=some ⟨[.tmp 6],sH z o bytes fo fs,.no⟩)(Ve:F fo=some fov)(AU:fov.Bw=.Ox)(hz:z.length=o)(ho:0<o)(CI:bytes<=1000):T2 P T ng (dY T ng) f (rmV o):=by
 intro args h v h' hv cx ρ w S hG ha ep;obtain⟨b,off,len,cap,i,x,xo,xc,cs,op,s,QD,QE,xs,vs,rfl,hb,hx,hi,D4,rO,bY,Tp,hsm,uk,rfl,rfl⟩:=Qq hv;obtain⟨c0,c1,c2,rfl,h0,h1,h2⟩:=MP ha;obtain⟨r,ca,ccap,hρ,KX,rfl⟩:=fh h0;have Fq:vs.length=o:=by
  unfold aV at uk;rw[hx] at uk;dsimp only at uk;split at uk
  .rename_i hh;cases uk;exact mH hh
  .cases uk
 have Zk:len*o+o=(len+1)*o:=by rw[tw];omega
 have hm2:(len+1)*o<=cap*o:=DX _ D4;obtain⟨tX,gY⟩:=Oc (cs:=cs) (off:=off) hi Fq (by omega);have lq:=S.wf _ _ hb;have Ft:=S.wf _ _ hx;have hB:=S.obj b r _ hρ hb;rcases ve op with rfl|N2
 .obtain⟨n,v2,GK,hr,rfl,NV,JD,Ca,s',AT⟩:=G1 (F:=F) hf Ve AU hz ho CI (h:=h) (b:=b) (off:=off) (xc:=xc) hi D4 hsm hb bY hx uk Tp;obtain⟨fn,ρ2,w2,c,fr2,g1,g2,g3,g4,g5,g6,g7,S2,E2⟩:=yK hF hT hr S hG ha ep;rw[tX] at AT;have hρ2:=E2.le b r hρ;have hO:gH (eO T ng (dY T ng)) ρ2 r (.aC (aH cs off (aI cs vs off i len o)) false 0 h.clock) w2:=by have:=S2.obj b r _ hρ2 AT;exact this
  obtain⟨S3,E3⟩:=S2.swap (h':= {put h b off cs (aI cs vs off i len o) 0 with next:=h.next+8}) hρ2 AT rfl hρ2 rfl (by simp[put,Tr.az]) hO (by rw[NV];exact Nat.le_add_right _ _) (fun y o' hy C2=>by simp only[put,Tr.az] at C2;rw[aW hy] at C2;exact⟨hy,o',by rw[Ca y (S.wf y _ C2) hy];exact C2,rfl⟩)
  exact⟨fn,ρ2,w2,c,fr2,g1,g2,g3,g4,g5,g6,g7,S3,E2.trans E3⟩
 .have apk:op=o:=by omega
  subst apk;obtain⟨Hx,el,fr,hw,vj,JG,⟨lr,adM⟩,hfr,Bi⟩:=hB;have hrr:r.len<=r.room:=by obtain⟨c,hc,_⟩:=Bi (cs.length-1) _ (fI (by omega));have:=(Array.getElem?_eq_some_iff.mp hc).1;omega
  have abq:(Hx.toList.drop (r.base+r.len)).length=r.room-r.len:=by simp;omega
  have ahV:(cs++Hx.toList.drop (r.base+r.len)).length=r.room:=by rw[GJ,abq];omega
  have aiN:∀j v,(Hx.toList.drop (r.base+r.len))[j]?=some v->cg v=true/\Hx[r.base+(r.len+j)]?=some v:=by
   intro j v hj;rw[List.getElem?_drop] at hj;have Rm:Hx[r.base+(r.len+j)]?=some v:=by rw[<-BW];simpa using hj
   exact⟨adM (by omega) (r.len+j) v (by omega) Rm,Rm⟩
  let im:vy:=⟨r.aC,r.base,r.room,0,r.room⟩
  have z7:=nH (r:=im) S.fresh;have aph:gH (eO T ng (dY T ng)) (fz ρ h.next im) im (.aC (cs++Hx.toList.drop (r.base+r.len)) false 0 0) w:=by
   refine⟨Hx,el,fr,hw,ahV.symm,rfl,⟨lr,fun h=>absurd rfl h⟩,hfr,fun j v hj=>?_⟩;by_cases aS:j<cs.length
   .rw[Ky aS] at hj;obtain⟨c,hc,hk⟩:=Bi j v hj;exact⟨c,hc,hk.mono z7⟩
   .rw[Mu (by omega)] at hj;obtain⟨hc,ht⟩:=aiN _ _ hj;refine⟨v,?_,.cell (kh hc)⟩;rw[<-ht];show Hx[r.base+j]?=_;congr 1;omega
  obtain⟨S1,E1⟩:=S.move (im:=im) hρ hb rfl rfl ⟨rfl,rfl,rfl,rfl,fun _ _=>rfl⟩ aph;have GR:∀y,(({h with tr:=h.tr.del b} :ae).new (.aC (cs++Hx.toList.drop (r.base+r.len)) false 0 0)).tr.get y=if y=h.next then some (.aC (cs++Hx.toList.drop (r.base+r.len)) false 0 0) else if y=b then none else h.tr.get y:=by intro y;simp only[ae.new,Tr.az,Tr.kA]
  have hn1:(({h with tr:=h.tr.del b} :ae).new (.aC (cs++Hx.toList.drop (r.base+r.len)) false 0 0)).next=h.next+1:=rfl
  generalize hh1:({h with tr:=h.tr.del b} :ae).new (.aC (cs++Hx.toList.drop (r.base+r.len)) false 0 0)=Iy at*;have D1:Iy.tr.get h.next=some (.aC (cs++Hx.toList.drop (r.base+r.len)) false 0 0):=by rw[GR,aZ rfl]
  have hx1:Iy.tr.get x=some (.aC QD false QE xs):=by rw[GR,aW (by omega),aW (Ne.symm Tp)];exact hx
  have apR:aV Iy x xo op=some vs:=by rw[<-uk];unfold aV;rw[hx1,hx]
  have KJ:ca=⟨r.aC,r.base+off,none⟩:=by
   rcases KX.1 with e|⟨_,e⟩
   .exact e
   .omega
  have U_:cap<=ccap:=by
   rcases KX.2.1 with e|e
   .omega
   .omega
  have aoa:off+ccap*op<=r.room:=by
   rcases KX.2.1 with e|⟨_,_,_,e⟩
   .rw[e];omega
   .rw[JG] at e;exact e
  have zV:All2 (VR (fz ρ h.next im)) [.slice (some ⟨h.next,off,none⟩) len ccap,.int .i64 (.ofNat i),.slice (some ⟨x,xo,none⟩) 1 xc] [.slice (some ca) len ccap,c1,c2]:=by refine .cons (CR.vr (.slice (r:=im) (by simp[fz]) ⟨.inl KJ,.inl rfl,by omega⟩)) (.cons (h1.mono z7) (.cons (h2.mono z7) .nil))
  have hG1:=hG.mono z7;obtain⟨n,v2,GK,hr,rfl,NV,JD,Ca,s',AT⟩:=G1 (F:=F) hf Ve AU hz ho CI (h:=Iy) (b:=h.next) (off:=off) (i:=i) (xc:=xc) hi (show len<ccap by omega) hsm D1 (by rw[ahV];exact aoa) hx1 apR (by omega);obtain⟨fn,ρ2,w2,c,fr2,g1,g2,g3,g4,g5,g6,g7,S2,E2⟩:=yK hF hT hr S1 hG1 zV ep;obtain⟨r2,ca2,agB,hρ2,aiK,rfl⟩:=fh g7;have Bm:r2=im:=by have:=E2.le h.next im (by simp[fz]);rw[this] at hρ2;cases hρ2;rfl
  subst Bm;have zY:aI (cs++Hx.toList.drop (r.base+r.len)) vs off i len op=aI cs vs off i len op:=by
   have e4:i*op+(len-i)*op=len*op:=by rw[<-tw];congr 1;omega
   unfold aI;rw[List.drop_append_of_le_length (by omega),List.drop_append_of_le_length (by omega),List.take_append_of_le_length (by simp;omega),List.take_append_of_le_length (by simp;omega)]
  have ahF:(cs++Hx.toList.drop (r.base+r.len)).take off++aI (cs++Hx.toList.drop (r.base+r.len)) vs off i len op++(cs++Hx.toList.drop (r.base+r.len)).drop (off+(len+1)*op)=aH cs off (aI cs vs off i len op)++Hx.toList.drop (r.base+r.len):=by rw[zY,<-tX,List.take_append_of_le_length (by omega),List.drop_append_of_le_length (by omega)];simp only[vu]
  rw[ahF] at AT;have Vl:(aH cs off (aI cs vs off i len op)).length=cs.length:=by rw[<-tX];simp only[GJ,List.length_take,List.length_drop,gY];omega
  obtain⟨ae0,el2,am_,hw2,sE,_,⟨Vx,_⟩,hfr2,hcells2⟩:=S2.obj _ _ _ hρ2 AT;have hρb:ρ2 b=some r:=E2.le b r (z7 b r hρ);have hO:gH (eO T ng (dY T ng)) ρ2 r (.aC (aH cs off (aI cs vs off i len op)) false op h.clock) w2:=by
   refine⟨ae0,el2,am_,hw2,by omega,JG,⟨Vx,fun _ j c hj hc=>?_⟩,hfr2,fun j v hj=>?_⟩
   .have qD:=(Array.getElem?_eq_some_iff.mp hc).1;have akY:r.base+r.room=ae0.size:=Vx;obtain⟨v,hv⟩:=aE (Hx.toList.drop (r.base+r.len)) (j-cs.length) (by rw[abq];omega);have hC:(aH cs off (aI cs vs off i len op)++Hx.toList.drop (r.base+r.len))[j]?=some v:=by rw[Mu (by omega),Vl];exact hv
    obtain⟨c',PK,wV⟩:=hcells2 _ _ hC;have ahJ:ae0[r.base+j]?=some c':=PK;rw[hc] at ahJ;cases ahJ;exact Uu wV (aiN _ _ hv).1
   .have aS:=(cr.mp hj).1;exact hcells2 j v (by rw[Ky aS];exact hj)
  obtain⟨S3,E3⟩:=S2.swap (h':= {put h b off cs (aI cs vs off i len op) op with next:=h.next+8}) hρ2 AT rfl hρb rfl (by simp[put,Tr.az]) hO (by rw[NV,hn1];show h.next+1<=h.next+8;omega) (fun y o' hy C2=>by simp only[put,Tr.az] at C2;rw[aW hy] at C2;have dS:=S.wf y _ C2;exact⟨by omega,o',by rw[Ca y (by omega) (by omega),GR,aW (by omega),aW hy];exact C2,rfl⟩)
  refine⟨fn,ρ2,w2,_,fr2,g1,g2,g3,g4,g5,g6,CR.vr (.slice (r:=r) hρb ⟨?_,?_,D4⟩),S3,(E1.trans E2).trans E3⟩
  .rcases aiK.1 with e|⟨_,e⟩
   .exact .inl e
   .omega
  .have:agB=ccap:=by
    rcases aiK.2.1 with e|⟨e,_⟩
    .exact e
    .exact absurd rfl e
   rw[this];exact KX.2.1
def Ff(F:Nat->Option bM)(fi o:Nat)(f:Nat):Option bM:=bif Nat.beq f fi then some ⟨[],.bad,.run (rmV o) fun _ _ _ _=>Hr⟩ else F f
theorem Mi(hF:Cy P T ng (dY T ng) F)(hT:cu P T)(hf:F f=some ⟨[.tmp 6],sH z o bytes fo fs,.no⟩)(Ve:F fo=some fov)(AU:fov.Bw=.Ox)(hz:z.length=o)(ho:0<o)(CI:bytes<=1000):Cy P T ng (dY T ng) (Ff F f o):=by
 intro g af h;unfold Ff at h;cases hb:Nat.beq g f with
 |true=>
  rw[hb] at h;cases h;rw[mH hb];exact SG hF hT hf Ve AU hz ho CI
 |false=>rw[hb] at h;exact hF g af h
theorem aF.run{F:Nat->Option bM}{f:Nat}{rs:List AY}{body:aq}{p:List Value->ae->Option (Value×ae)}{k:∀args h v h',p args h=some (v,h')->dm h h'}{args:List Value}{h h':ae}{v:Value}{R:Value->ae->Prop}(hf:F f=some ⟨rs,body,.run p k⟩)(hp:p args h=some (v,h'))(H:R v h'):aF F f args h R:=
 ⟨0,v,h',by simp only[si,oi,hf];exact hp,H⟩
end
def Kept(W W':World):Prop:=W'.os=W.os/\W'.output=W.output/\W.heap.size<=W'.heap.size/\∀i,i<W.heap.size->W'.heap[i]?=W.heap[i]?
theorem Kept.keptBut{W W':World}(h:Kept W W')(may:MemPlace->Prop):W.keptBut W' may:=by
 refine⟨h.1,h.2.1,fun i hi=>?_⟩;rw[h.2.2.2 i hi];cases hx:W.heap[i]? with
 |none=>rfl
 |some o=>
  cases o with
  |cells cc t fr=>exact⟨rfl,rfl,rfl,fun _ _=>rfl⟩
  |map es cl=>exact .inr ⟨rfl,rfl⟩
  |_=>rfl
theorem Kept.sameAt{W W':World}(h:Kept W W'){p:MemPlace}(hp:p.block<W.heap.size):W.sameAt W' p:=by
 cases p with
 |cell b off=>simp only[World.sameAt,World.cell?,h.2.2.2 b hp]
 |map b=>exact h.2.2.2 b hp
theorem Kept.frozen{W W':World}(h:Kept W W'){b off:Nat}(hb:b<W.heap.size):W'.frozen? ⟨b,off,none⟩=W.frozen? ⟨b,off,none⟩:=by simp only[World.frozen?,h.2.2.2 b hb]
section
variable{P:Program}{T:oR}{ng:Nat}{F:Nat->Option bM}
theorem law_read(hF:Cy P T ng (dY T ng) F)(hT:cu P T){args cx:List Value}(H:aF F f args h (fun v _=>v=.bool true))(S:cK (eO T ng (dY T ng)) ρ h W)(hG:cj ng ρ)(ha:All2 (VR ρ) args cx)(JG:∀b,¬dh h b):
  Calls P f ⟨cx⟩ W (fun e W'=>e=.returned (.bool true)/\Kept W W'):=by
 obtain⟨n,v,h',hr,rfl⟩:=H;intro ep;obtain⟨fn,ρ',w',c,fr,_,_,_,h4,h5,h6,h7,_,h9⟩:=yK hF hT hr S hG ha ep;have Mz:=h7.iA;subst Mz;exact⟨.returned (.bool true),w',fr,⟨rfl,h9.os,h9.output,h9.size,fun i hi=>h9.mE i hi (fun b r _ hw=>absurd hw (JG b))⟩,h4,h5,h6⟩
end
section
open Go.ChangeShapes Go.WideShapes Go.ChangeAt
variable{H:Type}{enc:TypeId×Value->H}{P:Program}
theorem post_of_read{f:Func}{s:ChangeSpec}{apart fresh handsOn again:Bool}{W W':World}{args:Array Value}{ds gs:List (DataW H)}{before:List MemPlace}(hW:DataW.Whole enc P f.params.toList s.vars apart W args.toList ds gs before)(Zu:∀(b:Nat)(sp:Nat->Bool)(hd:Bool),DataW.TrodAll enc P W' b sp hd f.resultTypes.toList (v.resultList f.resultTypes.size) (s.fn H (ds++gs)).results [])(zV:∀sp:Nat->Bool,(∀p∈before,sp p.block=true)->DataW.TrodAll enc P W' 0 sp true f.params.toList args.toList (s.fn H (ds++gs)).args before)(abu:∀sp:Nat->Bool,(∀p∈before,sp p.block=true)->DataW.TrodVars enc P W' sp s.vars (s.fn H (ds++gs)).vars [])(hk:Kept W W')(dx:∀(j:Nat)(t:TypeId)(r:Value),f.resultTypes[j]?=some t->(v.resultList f.resultTypes.size)[j]?=some r->Value.okWide P W' .any 0 t r):
  s.post enc P f apart fresh handsOn again W args v W':=by
 have hold:∀p∈before,(fun b=>decide (b<W.heap.size)) p.block=true:=fun p hp=>by simpa using hW.lt p hp
 refine⟨ds,gs,before,[],before,[],hW,Zu _ _ _,zV _ hold,abu _ hold,World.keptBut_mono (fun p hp=>⟨hp,.inr (.inl hp)⟩) (hk.keptBut _),fun _=>?_⟩;have dS:=hW.lt;obtain⟨_,_,_,_,_,hz,hn⟩:=hW;refine⟨dx,_,_,([]++before)++[],⟨[]++before,[],trodAll_append (zV _ (fun _ _=>rfl)) (Zu _ _ _),abu _ (fun _ _=>rfl),rfl,?_,?_⟩,?_⟩
 .intro b off hp;simp only[List.nil_append,List.append_nil] at hp;rw[hk.frozen (b:=b) (dS (.cell b off) hp)];exact hz b off hp
 .intro ha;simpa using hn ha
 .intro p hp _;simpa using hp
end
end Go.AI
namespace Go.AI
open Go.ChangeShapes Go.WideShapes
variable{a:Addr}{h:ae}{k:Option Nat}{v:Value}{ρ:dE}
inductive Ty where
 |bool
 |int (k:IntKind)
 |str
 |unit
 |pair (a b:Ty)
 |sl (e:Ty)
namespace Ty
def sz:Ty->Nat
 |.bool=>1
 |.int _=>1
 |.str=>1
 |.unit=>0
 |.pair a b=>a.sz+b.sz
 |.sl _=>1
def den:Ty->Type
 |.bool=>Bool
 |.int _=>Int
 |.str=>ByteArray
 |.unit=>Unit
 |.pair a b=>a.den×b.den
 |.sl e=>List e.den
def rep(e:Ty):Nat->Ty
 |0=>.unit
 |n+1=>.pair e (e.rep n)
end Ty
def SliceR{α:Type}(R:List Value->α->Prop)(sz:Nat)(h:ae)(v:Value)(xs:List α):Prop:=
 ∃a cap,v=.slice a xs.length cap/\((xs=[]/\(a=none\/∃b off,a=some ⟨b,off,none⟩))\/
  ∃b off cs ro o s,a=some ⟨b,off,none⟩/\h.tr.get b=some (.aC cs ro o s)/\∀i x,xs[i]?=some x->((cs.drop (off+i*sz)).take sz).length=sz/\R ((cs.drop (off+i*sz)).take sz) x)
def rep:(T:Ty)->ae->List Value->T.den->Prop
 |.bool,_,cs,b=>cs=[.bool b]
 |.int k,_,cs,n=>cs=[.int k n]
 |.str,_,cs,s=>cs=[.string s]
 |.unit,_,cs,_=>cs=[]
 |.pair a b,h,cs,(x,y)=>∃c1 c2,cs=c1++c2/\rep a h c1 x/\rep b h c2 y
 |.sl e,h,cs,xs=>∃v,cs=[v]/\SliceR (rep e h) e.sz h v xs
theorem SliceR.mono{α:Type}{R R':List Value->α->Prop}{sz:Nat}{h h':ae}{xs:List α}(s:SliceR R sz h v xs)(ok:bm h)(g:ab aK h h')(hR:∀c x,R c x->R' c x):SliceR R' sz h' v xs:=by
 obtain⟨a,cap,rfl,s⟩:=s;refine⟨a,cap,rfl,?_⟩;rcases s with s|⟨b,off,cs,ro,o,st,rfl,hb,he⟩
 .exact .inl s
 .exact .inr ⟨b,off,cs,ro,o,st,rfl,g.get ok hb,fun i x hx=>⟨(he i x hx).1,hR _ _ (he i x hx).2⟩⟩
theorem ug:∀ {T:Ty} {h h':ae} {cs:List Value} {y:T.den},bm h->ab aK h h'->rep T h cs y->rep T h' cs y
 |.bool,_,_,_,_,_,_,r=>r
 |.int _,_,_,_,_,_,_,r=>r
 |.str,_,_,_,_,_,_,r=>r
 |.unit,_,_,_,_,_,_,r=>r
 |.pair a b,_,_,_,(x,y),ok,g,⟨c1,c2,e,r1,r2⟩=>⟨c1,c2,e,ug ok g r1,ug ok g r2⟩
 |.sl e,_,_,_,_,ok,g,⟨v,hv,s⟩=>⟨v,hv,s.mono ok g fun _ _ r=>ug ok g r⟩
theorem Db:∀ {T:Ty} {h:ae} {cs:List Value} {y:T.den},rep T h cs y->cs.length=T.sz
 |.bool,_,_,_,r=>by rw[show _=[_] from r];rfl
 |.int _,_,_,_,r=>by rw[show _=[_] from r];rfl
 |.str,_,_,_,r=>by rw[show _=[_] from r];rfl
 |.unit,_,_,_,r=>by rw[show _=[] from r];rfl
 |.pair a b,_,_,(x,y),⟨c1,c2,e,r1,r2⟩=>by rw[e,GJ,Db r1,Db r2];rfl
 |.sl e,_,_,_,⟨v,hv,_⟩=>by rw[hv];rfl
def Bd(k:Option Nat):(T:Ty)->T.den->Prop
 |.bool,_=>True
 |.int _,_=>True
 |.str,_=>True
 |.unit,_=>True
 |.pair a b,(x,y)=>Bd k a x/\Bd k b y
 |.sl e,(xs:List e.den)=>(∀K,k=some K->xs.length<=K)/\∀x∈xs,Bd k e x
section
variable(P:Program)
def kx(f:TypeId->Option Ty):Nat->List Field->Option (Ty×Nat)
 |off,[]=>some (.unit,off)
 |off,x::xs=>bif Nat.beq x.offset off then match f x.type with
   |none=>none
   |some a=>bif Nat.beq a.sz (P.cellsOf x.type) then match kx f (off+a.sz) xs with
     |some (b,n)=>some (.pair a b,n)
     |none=>none
    else none
  else none
def tyOf:Nat->TypeId->Option Ty
 |0,_=>none
 |d+1,t=>match P.underlying t with
  |some .bool=>some .bool
  |some (.int k)=>some (.int k)
  |some .string=>some .str
  |some (.slice e)=>match tyOf d e with
   |some a=>bif Nat.blt 0 (P.bytesOf e)&&(Nat.beq a.sz (P.cellsOf e)&&Nat.blt 0 a.sz) then some (.sl a) else none
   |none=>none
  |some (.struct fs)=>match kx P (tyOf d) 0 fs.toList with
   |some (a,n)=>bif Nat.beq n (P.cellsOf t) then some a else none
   |none=>none
  |some (.array n e)=>match tyOf d e with
   |some a=>bif Nat.beq a.sz (P.cellsOf e)&&Nat.beq (n*a.sz) (P.cellsOf t) then some (a.rep n) else none
   |none=>none
  |_=>none
end
theorem uB{a b:Nat}(h:Nat.beq a b=true):a=b:=mH h
structure yw(CC:bK)(ρ:dE)(h:ae)(w:World):Prop where
 ok:bm h
 ro:∀b,¬dh h b
 Qw:cK CC ρ h w
section
variable{H:Type}{enc:TypeId×Value->H}{P:Program}{w:World}{held:Bool}{CC:bK}
theorem yw.add(L:yw CC ρ h w){aC base:Nat}{acs:List Value}{ep:Array Value}{el:TypeId}{fr:Nat×Nat}(hb:w.heap[aC]?=some (.cells ep el fr))(aa5:base<=ep.size)(hk:∀(j:Nat)(v:Value),acs[j]?=some v->∃c,ep[base+j]?=some c/\KR ρ v c):
  ∃ρ',ρ.le ρ'/\ρ' h.next=some ⟨aC,base,acs.length,0,ep.size-base⟩/\yw CC ρ' (h.new (.aC acs true 0 0)) w/\ab aK h (h.new (.aC acs true 0 0)):=by
 have GY:ρ h.next=none:=by
  cases hr:ρ h.next with
  |none=>rfl
  |some r=>exact absurd (L.Qw.low _ _ hr).1 (by omega)
 let ρ':dE:=fun b=>if b=h.next then some ⟨aC,base,acs.length,0,ep.size-base⟩ else ρ b
 have hle:ρ.le ρ':=by intro b r hr;show(if b=h.next then _ else ρ b)=some r;rw[aW (by rintro rfl;rw[GY] at hr;cases hr)];exact hr
 have z9:ρ' h.next=some ⟨aC,base,acs.length,0,ep.size-base⟩:=by show(if h.next=h.next then _ else _)=_;rw[aZ rfl]
 have dz:∀b,(h.new (.aC acs true 0 0)).tr.get b=if b=h.next then some (.aC acs true 0 0) else h.tr.get b:=by intro b;simp[ae.new,Tr.az]
 have dx:bm (h.new (.aC acs true 0 0)):=by
  refine⟨fun b o hb=>?_,fun b cs ro o s hb=>?_⟩
  .rw[dz] at hb;show b<h.next+1;split at hb
   .omega
   .exact Nat.lt_succ_of_lt (L.ok.wf b o hb)
  .rw[dz] at hb;split at hb
   .cases hb;exact Nat.zero_le _
   .exact L.ok.st b cs ro o s hb
 have JG:∀b,¬dh (h.new (.aC acs true 0 0)) b:=by
  rintro b⟨o,ho,hr⟩;rw[dz] at ho;split at ho
  .cases ho;cases hr
  .exact L.ro b ⟨o,ho,hr⟩
 have hgr:ab aK h (h.new (.aC acs true 0 0)):=by refine⟨Nat.le_succ _,dw _,fun b hb _=>?_,dx⟩;rw[dz,aW (by omega)]
 refine⟨ρ',hle,z9,⟨dx,JG,⟨fun b r hr=>?_,fun b r o hr ho=>?_,fun b b' r r' o _ _ hw=>absurd hw (JG b),fun b o ho=>dx.wf b o ho⟩⟩,hgr⟩
 .by_cases e:b=h.next
  .rw[e] at hr;rw[z9] at hr;cases hr;exact⟨by rw[e];exact Nat.lt_succ_self _,(Array.getElem?_eq_some_iff.mp hb).1⟩
  .have CZ:ρ b=some r:=by
    have:ρ' b=ρ b:=by show(if b=h.next then _ else ρ b)=_;rw[aW e]
    rw[<-this];exact hr
   exact⟨Nat.lt_succ_of_lt (L.Qw.low _ _ CZ).1,(L.Qw.low _ _ CZ).2⟩
 .rw[dz] at ho;by_cases e:b=h.next
  .rw[aZ e] at ho;cases ho;rw[e,z9] at hr;cases hr;exact⟨ep,el,fr,hb,rfl,rfl,⟨by dsimp only;omega,fun h=>absurd rfl h⟩,(fun h=>by cases h),fun j v hv=>by obtain⟨c,hc,hkr⟩:=hk j v hv;exact⟨c,hc,hkr.mono hle⟩⟩
  .rw[aW e] at ho;have CZ:ρ b=some r:=by
    have:ρ' b=ρ b:=by show(if b=h.next then _ else ρ b)=_;rw[aW e]
    rw[<-this];exact hr
   have Vq:=L.Qw.obj b r o CZ ho;cases o with
   |aC cs ro op st=>
    obtain⟨c2,el2,fr2,h1,h2,h3,h4,h5,h6⟩:=Vq;exact⟨c2,el2,fr2,h1,h2,h3,h4,h5,fun j v hv=>by obtain⟨c,hc,hkr⟩:=h6 j v hv;exact⟨c,hc,hkr.mono hle⟩⟩
   |loop=>exact absurd ⟨_,ho,rfl⟩ (L.ro b)
   |map=>exact absurd ⟨_,ho,rfl⟩ (L.ro b)
def Laid(k:Option Nat)(CC:bK)(w:World)(T:Ty)(ρ:dE)(h:ae)(cs:List Value):Prop:=
 ∃ρ' h' acs y,ρ.le ρ'/\ab aK h h'/\yw CC ρ' h' w/\All2 (KR ρ') acs cs/\rep T h' acs y/\Bd k T y
def WB(k:Option Nat)(P:Program)(t:TypeId)(d:DataW H):Prop:=∀K,k=some K->∀n∈d.weights P t,n<=K
theorem Pd{k:Option Nat}{P:Program}{e:TypeId}{K:Nat}(hk:k=some K):∀ {l:List (DataW H)},(∀n∈DataW.weightsAll P e l,n<=K)->∀ {i:Nat} {d:DataW H},l[i]?=some d->WB k P e d
 |[],_,_,_,hi=>by simp at hi
 |x::l,h,i,d,hi=>by
  rw[DataW.weightsAll] at h;cases i with
  |zero=>
   simp at hi;subst hi;intro K2 AT n hn;rw[hk] at AT;cases AT;exact h n (List.mem_append_left _ hn)
  |succ i=>exact Pd hk (fun n hn=>h n (List.mem_append_right _ hn)) (by simpa using hi)
theorem QB{P:Program}{K:Nat} :∀ {ts:List TypeId} {l:List (DataW H)},(∀n∈DataW.weightsEach P ts l,n<=K)->∀ {i:Nat} {t:TypeId} {d:DataW H},ts[i]?=some t->l[i]?=some d->∀n∈d.weights P t,n<=K
 |[],_,_,_,_,_,ht,_=>by simp at ht
 |_::_,[],_,_,_,_,_,hi=>by simp at hi
 |u::ts,x::l,h,i,t,d,ht,hi=>by
  rw[DataW.weightsEach] at h;cases i with
  |zero=>
   simp at hi ht;subst hi ht;exact fun n hn=>h n (List.mem_append_left _ hn)
  |succ i=>exact QB (fun n hn=>h n (List.mem_append_right _ hn)) (by simpa using ht) (by simpa using hi)
theorem G8{a b:Ty}{c1 c2:List Value}(h1:Laid k CC w a ρ h c1)(h2:∀ρ' h',yw CC ρ' h' w->Laid k CC w b ρ' h' c2):Laid k CC w (.pair a b) ρ h (c1++c2):=by obtain⟨ρ1,m1,a1,y1,l1,g1,L1,k1,r1,b1⟩:=h1;obtain⟨ρ2,m2,a2,y2,l2,g2,L2,k2,r2,b2⟩:=h2 ρ1 m1 L1;exact⟨ρ2,m2,a1++a2,(y1,y2),dE.le_trans l1 l2,g1.trans g2,L2,(k1.mono fun _ _ h=>h.mono l2).app k2,⟨a1,a2,rfl,ug L1.ok g2 r1,r2⟩,b1,b2⟩
theorem Lj{k:Option Nat}{e:Ty} :∀ {css:List (List Value)} {ρ:dE} {h:ae},yw CC ρ h w->(∀cs∈css,∀ρ' h',yw CC ρ' h' w->Laid k CC w e ρ' h' cs)->
  ∃ρ' h' MN ys,ρ.le ρ'/\ab aK h h'/\yw CC ρ' h' w/\All2 (All2 (KR ρ')) MN css/\All2 (rep e h') MN ys/\∀y∈ys,Bd k e y
 |[],ρ,h,L,_=>⟨ρ,h,[],[],ρ.le_refl,.refl L.ok,L,.nil,.nil,fun y hy=>by cases hy⟩
 |cs::css,ρ,h,L,H=>by
  obtain⟨ρ1,m1,a1,y1,l1,g1,L1,k1,r1,b1⟩:=H cs (AN ..) ρ h L;obtain⟨ρ2,m2,a2,y2,l2,g2,L2,k2,r2,b2⟩:=Lj L1 (fun c hc=>H c (Bf _ hc));exact⟨ρ2,m2,a1::a2,y1::y2,dE.le_trans l1 l2,g1.trans g2,L2,.cons (k1.mono fun _ _ h=>h.mono l2) k2,.cons (ug L1.ok g2 r1) r2,fun y hy=>by
   rcases List.mem_cons.1 hy with rfl|hy
   .exact b1
   .exact b2 y hy⟩
theorem Gk{α β:Type}{R:α->β->Prop} :∀ {l:List (List α)} {m:List (List β)},All2 (All2 R) l m->All2 R l.flatten m.flatten
 |_,_,.nil=>.nil
 |_,_,.cons h hs=>by simpa using h.app (Gk hs)
theorem PD{α:Type}{sz:Nat} :∀ {l:List (List α)} {i:Nat} {c:List α},(∀c∈l,c.length=sz)->l[i]?=some c->(l.flatten.drop (i*sz)).take sz=c
 |[],i,c,_,h=>by simp at h
 |x::l,0,c,hl,h=>by cases h;have:=hl x (AN ..);simp[List.take_append,this]
 |x::l,i+1,c,hl,h=>by
  have hx:=hl x (AN ..);have h':l[i]?=some c:=by simpa using h
  rw[List.flatten_cons,List.drop_append,UO (by rw[hx,tw];omega),List.nil_append,hx,show(i+1)*sz-sz=i*sz by rw[tw];omega];exact PD (fun c hc=>hl c (Bf _ hc)) h'
theorem Kr{α:Type}{sz:Nat}(hz:0<sz):∀ {l:List (List α)} {j:Nat} {c:α},(∀c∈l,c.length=sz)->l.flatten[j]?=some c->∃x,l[j/sz]?=some x/\x[j%sz]?=some c
 |[],j,c,_,h=>by simp at h
 |x::l,j,c,hl,h=>by
  have hx:=hl x (AN ..);rw[List.flatten_cons] at h;by_cases hj:j<sz
  .rw[Ky (by omega)] at h;exact⟨x,by rw[Nat.div_eq_of_lt hj];rfl,by rw[Nat.mod_eq_of_lt hj];exact h⟩
  .rw[Mu (by omega),hx] at h;obtain⟨y,hy,hc⟩:=Kr hz (fun c hc=>hl c (Bf _ hc)) h;refine⟨y,?_,?_⟩
   .rw[Nat.div_eq j sz,aZ ⟨hz,by omega⟩];simpa using hy
   .rw[Nat.mod_eq_sub_mod (by omega)];exact hc
theorem Lm{α β:Type}{f:α->Option β} :∀ {l:List α} {r:List β},l.mapM f=some r->r.length=l.length/\∀(i:Nat)(a:α)(b:β),l[i]?=some a->r[i]?=some b->f a=some b
 |[],r,h=>by simp at h;subst h;simp
 |a::l,r,h=>by
  rw[List.mapM_cons] at h;simp only[Option.bind_eq_bind,Option.bind_eq_some_iff,Option.pure_def,jm] at h;obtain⟨b,hb,bs,KH,rfl⟩:=h;obtain⟨h1,h2⟩:=Lm KH;refine⟨by simp[h1],fun i x y hx hy=>?_⟩;cases i with
  |zero=>simp at hx hy;subst hx;subst hy;exact hb
  |succ i=>exact h2 i x y (by simpa using hx) (by simpa using hy)
theorem Be{n:Nat}{cs:List Value}(h:w.cells? 0 a n=some cs):cs.length=n/\∀k c,cs[k]?=some c->w.cell? (a.add k)=some c:=by unfold World.cells? at h;rw[aZ (Nat.zero_le _)] at h;obtain⟨h1,h2⟩:=Lm h;simp at h1;refine⟨h1,fun k c hc=>?_⟩;have hk:=(cr.mp hc).1;exact h2 k k c (by rw[List.getElem?_range (by omega)]) hc
theorem Pz(h:w.cell? a=some v):a.spot=none/\∃ep el fr,w.heap[a.block]?=some (.cells ep el fr)/\ep[a.off]?=some v:=by
 unfold World.cell? at h;split at h
 .rename_i ep el fr hh;split at h
  .cases h
  .rename_i hs;exact⟨by cases hsp:a.spot with|none=>rfl|some _=>rw[hsp] at hs;simp at hs,ep,el,fr,hh,h⟩
 .cases h
theorem BT{α:Type}{R:Nat->α->Prop} :∀ {n:Nat},(∀i,i<n->∃x,R i x)->∃l:List α,l.length=n/\∀i x,l[i]?=some x->R i x
 |0,_=>⟨[],rfl,by simp⟩
 |n+1,h=>by
  obtain⟨l,hl,hr⟩:=BT (n:=n) fun i hi=>h i (by omega);obtain⟨x,hx⟩:=h n (by omega);refine⟨l++[x],by simp[hl],fun i y hy=>?_⟩;by_cases e:i<n
  .rw[Ky (by omega)] at hy;exact hr i y hy
  .have dS:=(cr.mp hy).1;simp[hl] at dS;have:i=n:=by omega
   subst this;rw[Mu (by omega),hl,Nat.sub_self] at hy;cases hy;exact hx
theorem Cv{f:TypeId->Option Ty} :∀ {fl:List Field} {off n:Nat} {T:Ty},kx P f off fl=some (T,n)->off<=n
 |[],off,n,T,h=>by simp[kx] at h;omega
 |x::fl,off,n,T,h=>by
  unfold kx at h;cases hb:Nat.beq x.offset off with
  |false=>rw[hb] at h;cases h
  |true=>
   rw[hb] at h;simp only[cond_true] at h;cases ha:f x.type with
   |none=>rw[ha] at h;cases h
   |some a=>
    rw[ha] at h;dsimp only at h;cases hc:Nat.beq a.sz (P.cellsOf x.type) with
    |false=>rw[hc] at h;cases h
    |true=>
     rw[hc] at h;simp only[cond_true] at h;cases hr:kx P f (off+a.sz) fl with
     |none=>rw[hr] at h;cases h
     |some q=>
      obtain⟨b,m⟩:=q;rw[hr] at h;cases h;have:=Cv hr;omega
theorem Gj(a:Addr)(n:Nat):(a.add n).block=a.block:=by unfold Addr.add;split<;>rfl
theorem Pu(a:Addr)(n:Nat):(a.add n).off=a.off+n:=by
 unfold Addr.add;split
 .rename_i h;rw[h];rfl
 .rfl
theorem G9(L:yw CC ρ h w):Laid k CC w .unit ρ h []:=⟨ρ,h,[],(),ρ.le_refl,.refl L.ok,L,.nil,rfl,trivial⟩
theorem IX{k:Option Nat} :∀ {d:Nat} {t:TypeId} {T:Ty},tyOf P d t=some T->∀ {n:Nat} {cs:List Value} {x:DataW H×List MemPlace} {ρ:dE} {h:ae},
  DataW.trod enc P w 0 (fun _=>true) held n t cs=some x->WB k P t x.1->yw CC ρ h w->(∃(k:Nat) (ep:Array Value) (el:TypeId) (fr:Nat×Nat),w.heap[k]?=some (.cells ep el fr))->Laid k CC w T ρ h cs:=by
 intro d;induction d with
 |zero=>intro t T hT;simp[tyOf] at hT
 |succ d ih=>
  intro t T hT n cs x ρ h hx hW L cq;unfold tyOf at hT;split at hT
  .rename_i hu;cases hT;obtain⟨b,rfl,_⟩:=DataW.trod_bool hu hx;exact⟨ρ,h,[.bool b],b,ρ.le_refl,.refl L.ok,L,.cons (.cell (.bool b)) .nil,rfl,trivial⟩
  .rename_i ki hu;cases hT;obtain⟨m,rfl,_⟩:=DataW.trod_int hu hx;exact⟨ρ,h,[.int ki m],m,ρ.le_refl,.refl L.ok,L,.cons (.cell (.int ki m)) .nil,rfl,trivial⟩
  .rename_i hu;cases hT;obtain⟨s,rfl,_⟩:=DataW.trod_string hu hx;exact⟨ρ,h,[.string s],s,ρ.le_refl,.refl L.ok,L,.cons (.cell (.str s)) .nil,rfl,trivial⟩
  .rename_i e hu;split at hT
   .rename_i a ha;cases hb:(Nat.blt 0 (P.bytesOf e)&&(Nat.beq a.sz (P.cellsOf e)&&Nat.blt 0 a.sz)) with
    |false=>rw[hb] at hT;cases hT
    |true=>
     rw[hb] at hT;cases hT;simp only[uh] at hb;have CI:0<P.bytesOf e:=by simpa [Nat.blt_eq] using hb.1
     have qD:=uB hb.2.1;have N2:0<a.sz:=by simpa [Nat.blt_eq] using hb.2.2
     rcases DataW.trod_slice hu hx with⟨rfl,_⟩|⟨ad,len,cap,elems,bg,m,rfl,rfl,ZB,_,Vl,_,j5,he,hr,_⟩
     .exact⟨ρ,h,[.slice none 0 0],[],ρ.le_refl,.refl L.ok,L,.cons (.cell (.oz 0 0)) .nil,⟨_,rfl,none,0,rfl,.inl ⟨rfl,.inl rfl⟩⟩,fun _ _=>Nat.zero_le _,fun y hy=>by cases hy⟩
     .obtain⟨vj,hr⟩:=hr rfl;rw[<-qD] at he hr;have hWs:∀K,k=some K->len<=K/\∀n∈DataW.weightsAll P e (elems.map (·.1)),n<=K:=by
       intro K hK;have hw:∀n∈DataW.weights P t (.slice (elems.map (·.1)) (bg.map (·.1))),n<=K:=by have:=hW K hK;rw[ZB] at this;exact this
       rw[DataW.weights,hu] at hw;simp only[UP,List.mem_cons,lE] at hw;have h1:=hw _ (.inl rfl);refine⟨?_,fun n hn=>hw n (.inr (.inl hn))⟩;have h2:(elems.length+bg.length)*1<=(elems.length+bg.length)*P.bytesOf e:=Nat.mul_le_mul_left _ CI;omega
      have hWe:∀i,i<len->∀y,elems[i]?=some y->WB k P e y.1:=by intro i _ y hy K hK;exact Pd hK (hWs K hK).2 (i:=i) (d:=y.1) (by simp[hy]) K hK
      have one:∀i,i<cap->∃ci y,w.cells? 0 (ad.add (i*a.sz)) a.sz=some ci/\DataW.trod enc P w 0 (fun _=>true) held m e ci=some y/\(i<len->WB k P e y.1):=by
       intro i hi;have hy:∃y,(w.cells? 0 (ad.add (i*a.sz)) a.sz).bind (DataW.trod enc P w 0 (fun _=>true) held m e)=some y/\(i<len->WB k P e y.1):=by
        by_cases gY:i<len
        .have h1:=he i gY;obtain⟨y,hy⟩:=aE elems i;rw[hy] at h1;exact⟨_,h1,fun hl=>hWe i hl y hy⟩
        .have h1:=hr (i-len) (by omega);rw[show len+(i-len)=i by omega,fI (by omega)] at h1;exact⟨_,h1,fun hl=>absurd hl gY⟩
       obtain⟨y,hy,hwy⟩:=hy;rw[Option.bind_eq_some_iff] at hy;obtain⟨ci,hc,hy⟩:=hy;exact⟨ci,y,hc,hy,hwy⟩
      by_cases AP:cap=0
      .subst AP;have Zj:len=0:=by omega
       subst Zj;obtain⟨kb,ep,el,fr,hk⟩:=cq;obtain⟨ρ',hle,z9,L',g⟩:=L.add (acs:=[]) hk (Nat.zero_le _) (fun j v hv=>by simp at hv);exact⟨ρ',_,[.slice (some ⟨h.next,0,none⟩) 0 0],[],hle,g,L',.cons (.cell (.slice z9 ⟨.inr ⟨rfl,rfl⟩,.inl rfl,dw _⟩)) .nil,⟨_,rfl,_,0,rfl,.inl ⟨rfl,.inr ⟨_,_,rfl⟩⟩⟩,fun _ _=>Nat.zero_le _,fun y hy=>by cases hy⟩
      .obtain⟨c0,y0,aof,_⟩:=one 0 (by omega);obtain⟨Zj,hg0⟩:=Be aof;have Va:=hg0 0 (c0[0]'(by omega)) (fI (by omega));have ahB:(ad.add (0*a.sz)).add 0=ad:=by simp[Addr.add]
       rw[ahB] at Va;obtain⟨hsp,ep,el,fr,NK,zY⟩:=Pz Va;have aa5:ad.off<=ep.size:=Nat.le_of_lt (Array.getElem?_eq_some_iff.mp zY).1;have had:ad=⟨ad.block,ad.off,none⟩:=by cases ad;simp at hsp;simp[hsp]
       obtain⟨css,CJ,ID⟩:=BT (n:=len) (R:=fun i ci=>w.cells? 0 (ad.add (i*a.sz)) a.sz=some ci/\∃y,DataW.trod enc P w 0 (fun _=>true) held m e ci=some y/\WB k P e y.1) (fun i hi=>by obtain⟨ci,y,h1,h2,h3⟩:=one i (by omega);exact⟨ci,h1,y,h2,h3 hi⟩)
       have bY:∀c∈css,c.length=a.sz:=by intro c hc;obtain⟨i,hi,rfl⟩:=List.mem_iff_getElem.mp hc;exact(Be (ID i _ (fI hi)).1).1
       obtain⟨ρ1,m1,MN,ys,l1,g1,L1,k1,r1,b1⟩:=Lj (k:=k) (e:=a) L (css:=css) (fun c hc ρ' h' L'=>by obtain⟨i,hi,rfl⟩:=List.mem_iff_getElem.mp hc;obtain⟨_,y,hy,hwy⟩:=ID i _ (fI hi);exact ih ha hy hwy L' cq)
       have PM:=Gk k1;obtain⟨ρ2,l2,z9,L2,g2⟩:=L1.add (acs:=MN.flatten) NK aa5 (fun j v hv=>by
        obtain⟨c,hc,hkr⟩:=PM.get hv;obtain⟨ci,hci,hck⟩:=Kr N2 bY hc;have ahM:=(Be (ID _ _ hci).1).2 _ _ hck;obtain⟨_,ccs2,el2,fr2,cA,ah4⟩:=Pz ahM;have ahH:((ad.add (j/a.sz*a.sz)).add (j%a.sz)).block=ad.block:=by rw[Gj,Gj]
        have aio:((ad.add (j/a.sz*a.sz)).add (j%a.sz)).off=ad.off+(j/a.sz*a.sz)+j%a.sz:=by rw[Pu,Pu]
        rw[ahH,NK] at cA;cases cA;refine⟨c,?_,hkr⟩;rw[aio,BW,Nat.mul_comm,Nat.div_add_mod] at ah4;exact ah4)
       have Aa:ys.length=len:=by rw[<-r1.length,k1.length,CJ]
       refine⟨ρ2,_,[.slice (some ⟨m1.next,0,none⟩) len cap],ys,dE.le_trans l1 l2,g1.trans g2,L2,.cons (.cell (.slice z9 ⟨.inl had,.inl rfl,Vl⟩)) .nil,⟨_,rfl,_,cap,by rw[Aa],.inr ⟨m1.next,0,MN.flatten,true,0,0,rfl,by simp[ae.new,Tr.az],fun i y hy=>?_⟩⟩,fun K hK=>by rw[Aa];exact(hWs K hK).1,b1⟩;have gY:=(cr.mp hy).1;have U6:i<MN.length:=by rw[r1.length];exact gY
       obtain⟨y',C2,aiB⟩:=r1.get (fI U6);rw[hy] at C2;cases C2;have B7:∀c∈MN,c.length=a.sz:=by intro c hc;obtain⟨i,hi,rfl⟩:=List.mem_iff_getElem.mp hc;obtain⟨y,_,hrp⟩:=r1.get (fI hi);exact Db hrp
       have B8:=PD B7 (fI U6);rw[BX,B8];exact⟨Db aiB,ug L1.ok g2 aiB⟩
   .cases hT
  .rename_i fs hu;split at hT
   .rename_i a m hf;cases hb:Nat.beq m (P.cellsOf t) with
    |false=>rw[hb] at hT;cases hT
    |true=>
     rw[hb] at hT;cases hT;obtain⟨xs,kf,rfl,ZB,CJ,rV,AW⟩:=DataW.trod_struct hu hx;have key:∀(fl:List Field)(off m:Nat)(T:Ty)(ρ:dE)(h:ae),(∀f∈fl,∃y,DataW.trod enc P w 0 (fun _=>true) held kf f.type ((cs.drop f.offset).take (P.cellsOf f.type))=some y/\WB k P f.type y.1)->
       kx P (tyOf P d) off fl=some (T,m)->m<=cs.length->yw CC ρ h w->Laid k CC w T ρ h ((cs.drop off).take (m-off)):=by
      intro fl;induction fl with
      |nil=>
       intro off m T ρ h _ hf _ L;simp only[kx,jm,vz] at hf;obtain⟨rfl,rfl⟩:=hf;rw[Nat.sub_self,List.take_zero];exact G9 L
      |cons f fl ihf=>
       intro off m T ρ h hy hf hm L;unfold kx at hf;cases hb:Nat.beq f.offset off with
       |false=>rw[hb] at hf;cases hf
       |true=>
        rw[hb] at hf;simp only[cond_true] at hf;have Zo:=uB hb;cases ha:tyOf P d f.type with
        |none=>rw[ha] at hf;cases hf
        |some a=>
         rw[ha] at hf;dsimp only at hf;cases hc:Nat.beq a.sz (P.cellsOf f.type) with
         |false=>rw[hc] at hf;cases hf
         |true=>
          rw[hc] at hf;simp only[cond_true] at hf;have qD:=uB hc;cases hr:kx P (tyOf P d) (off+a.sz) fl with
          |none=>rw[hr] at hf;cases hf
          |some q=>
           obtain⟨b,m'⟩:=q;rw[hr] at hf;cases hf;have hle:=Cv hr;obtain⟨y,hy1,hwy⟩:=hy f (AN ..);rw[Zo,<-qD] at hy1;have tX:(cs.drop off).take (m-off)=(cs.drop off).take a.sz++(cs.drop (off+a.sz)).take (m-(off+a.sz)):=by rw[<-List.drop_drop,show m-off=a.sz+(m-(off+a.sz)) by omega,List.take_add]
           rw[tX];exact G8 (ih ha hy1 hwy L cq) fun ρ' h' L'=>ihf _ _ _ _ _ (fun g hg=>hy g (Bf _ hg)) hr hm L'
     have:=key fs.toList 0 m T ρ h (fun f hf=>by
      obtain⟨i,hi,rfl⟩:=List.mem_iff_getElem.mp hf;have h1:=AW i (fs.toList[i]) (by simp);obtain⟨y,hy⟩:=aE xs i (by rw[rV];simpa using hi);rw[hy] at h1;refine⟨_,h1,fun K hK=>?_⟩;have hw:∀n∈DataW.weights P t (.agg (xs.map (·.1))),n<=K:=by have:=hW K hK;rw[ZB] at this;exact this
      rw[DataW.weights,hu] at hw;exact QB hw (i:=i) (by simp;exact⟨_,Array.getElem?_eq_getElem (by simpa using hi),by simp⟩) (by simp[hy])) hf (by rw[CJ,uB hb];exact dw _) L
     rw[uB hb,<-CJ] at this;simpa using this
   .cases hT
  .rename_i m e hu;split at hT
   .rename_i a ha;cases hb:(Nat.beq a.sz (P.cellsOf e)&&Nat.beq (m*a.sz) (P.cellsOf t)) with
    |false=>rw[hb] at hT;cases hT
    |true=>
     rw[hb] at hT;cases hT;simp only[uh] at hb;have qD:=uB hb.1;have apL:=uB hb.2;obtain⟨xs,kf,rfl,ZB,CJ,rV,AW⟩:=DataW.trod_array hu hx;rw[<-qD] at AW;have key:∀(q off:Nat)(ρ:dE)(h:ae),off+q=m->yw CC ρ h w->Laid k CC w (a.rep q) ρ h (cs.drop (off*a.sz)):=by
      intro q;induction q with
      |zero=>
       intro off ρ h hoq L;rw[UO (by rw[CJ,<-apL];exact DX _ (by omega))];exact G9 L
      |succ q ihq=>
       intro off ρ h hoq L;have h1:=AW off (by omega);obtain⟨y,hy⟩:=aE xs off;rw[hy] at h1;have hwy:WB k P e y.1:=by
        intro K hK;have hw:∀n∈DataW.weights P t (.agg (xs.map (·.1))),n<=K:=by have:=hW K hK;rw[ZB] at this;exact this
        rw[DataW.weights,hu] at hw;exact Pd hK hw (i:=off) (by simp[hy]) K hK
       have tX:cs.drop (off*a.sz)=(cs.drop (off*a.sz)).take a.sz++cs.drop ((off+1)*a.sz):=by rw[tw,Nat.one_mul,<-List.drop_drop,List.take_append_drop]
       rw[tX];exact G8 (ih ha h1 hwy L cq) fun ρ' h' L'=>ihq (off+1) ρ' h' (by omega) L'
     have:=key m 0 ρ h (by omega) L;simpa using this
   .cases hT
  .cases hT
end
end Go.AI
namespace Go.AI
variable{b:Bool}{op:ja}{t:Nat}
section
variable{F:Nat->Option bM}{R:Env->ae->Prop}{e:Env}{h:ae}{l:List aY}{d:Option Nat}{k:Nat}{m:List (aY×List Nat)}{lH:List Nat}
theorem Hm{R:Env->ae->Prop}(hg:ak e t=.tuple #[]):zp F ⟨d,some (t,b),op⟩ e h R↔R (cG e d (.tuple #[])) h:=by
 have hw:wanted e (some (t,b))=false:=by simp[wanted,hg]
 have key:∀n,cy F (run F n) ⟨d,some (t,b),op⟩ e h=some (cG e d (.tuple #[]),h):=by intro n;unfold cy;dsimp only;rw[hw];rfl
 constructor
 .rintro⟨n,e',h',hr,hq⟩;rw[key] at hr;cases hr;exact hq
 .intro hq;exact⟨0,_,_,key 0,hq⟩
@[simp ↓] theorem auu(hg:ak e t=.tuple #[]):aG F (⟨d,some (t,b),op⟩::l) e h R↔aG F l (cG e d (.tuple #[])) h R:=by rw[p7,Hm hg]
@[simp ↓] theorem arb(hg:ak e t=.tuple #[]):aU F k ((⟨d,some (t,b),op⟩,lH)::m) e h R↔(still (cG e d (.tuple #[])) h k lH=true/\aU F k m (cG e d (.tuple #[])) h R):=by rw[mV,Hm hg]
end
end Go.AI
namespace Go.AI
open Go.ChangeShapes Go.WideShapes Go.ChangeAt
def E8(agg:Bool)(acs:List Value):Value:=bif agg then .agg ⟨acs⟩ else acs.headD (.tuple #[])
def aggT(P:Program)(t:TypeId):Bool:=match P.underlying t with
 |some (.struct _)=>true
 |some (.array _ _)=>true
 |_=>false
section
variable{H:Type}{enc:TypeId×Value->H}{P:Program}{w:World}{held:Bool}{CC:bK}
def LaidV(k:Option Nat)(CC:bK)(w:World)(agg:Bool)(T:Ty)(ρ:dE)(h:ae)(v:Value):Prop:=
 ∃ρ' h' acs y,ρ.le ρ'/\ab aK h h'/\yw CC ρ' h' w/\VR ρ' (E8 agg acs) v/\rep T h' acs y/\Bd k T y
theorem laidV_of{k:Option Nat}{d:Nat}{t:TypeId}{T:Ty}{base:Nat}{v:Value}{dd:DataW H}{ps:List MemPlace}{ρ:dE}{h:ae}(hT:tyOf P d t=some T)(Bp:Value.okWide P w .any base t v)(hx:DataW.Trod enc P w 0 (fun _=>true) held t v dd ps)(hW:WB k P t dd)(L:yw CC ρ h w)(cq:∃(k:Nat) (ep:Array Value) (el:TypeId) (fr:Nat×Nat),w.heap[k]?=some (.cells ep el fr)):LaidV k CC w (aggT P t) T ρ h v:=by
 obtain⟨n,hx⟩:=hx;obtain⟨ρ',h',acs,y,l,g,L',kk,r⟩:=IX hT hx hW L cq;refine⟨ρ',h',acs,y,l,g,L',?_,r⟩;unfold E8;have Ja:aggT P t=false->(∀cs,v≠ .agg cs)->VR ρ' (bif aggT P t then .agg ⟨acs⟩ else acs.headD (.tuple #[])) v:=by
  intro ha hv;have hc:v.cells.toList=[v]:=by cases v<;>first|rfl|exact absurd rfl (hv _)
  rw[hc] at kk;rw[ha];cases kk with
  |cons hk hs=>exact hk.vr
 cases d with
 |zero=>simp[tyOf] at hT
 |succ d=>
  unfold tyOf at hT;split at hT
  .rename_i hu;obtain⟨b,rfl⟩:=okWide_bool hu Bp;exact Ja (by simp[aggT,hu]) (fun _ e=>by cases e)
  .rename_i k' hu;obtain⟨b,rfl⟩:=okWide_int hu Bp;exact Ja (by simp[aggT,hu]) (fun _ e=>by cases e)
  .rename_i hu;obtain⟨b,rfl⟩:=okWide_string hu Bp;exact Ja (by simp[aggT,hu]) (fun _ e=>by cases e)
  .rename_i e hu;obtain⟨a,len,cap,rfl⟩:=okWide_slice hu Bp;exact Ja (by simp[aggT,hu]) (fun _ e=>by cases e)
  .rename_i fs hu;simp only[Value.okWide,hu] at Bp;obtain⟨cs,rfl,_⟩:=Bp;have ha:aggT P t=true:=by simp[aggT,hu]
   rw[ha];obtain⟨cl⟩:=cs;exact .val (.agg kk)
  .rename_i m e hu;simp only[Value.okWide,hu] at Bp;obtain⟨cs,rfl,_⟩:=Bp;have ha:aggT P t=true:=by simp[aggT,hu]
   rw[ha];obtain⟨cl⟩:=cs;exact .val (.agg kk)
  .cases hT
theorem lain_heap1{cs:List Value}(ID:∀v∈cs,cg v=true){w:World}(hw:∃el fr,w.heap[0]?=some (.cells ⟨cs⟩ el fr)):
  yw CC (fun b=>if b=0 then some ⟨0,0,cs.length,0,cs.length⟩ else none) (GO cs) w:=by
 obtain⟨el,fr,hw⟩:=hw;have dz:∀b o,(GO cs).tr.get b=some o->b=0/\o=.aC cs true 0 0:=by
  intro b o h;cases b with
  |zero=>simp only[GO,Tr.get,jm] at h;exact⟨rfl,h.symm⟩
  |succ b=>
   simp only[GO,Tr.get] at h;cases hb:Nat.beq (b%2) 0<;>rw[hb] at h<;>simp at h
 have JG:∀b,¬dh (GO cs) b:=by rintro b⟨o,ho,hr⟩;rw[(dz b o ho).2] at hr;cases hr
 refine⟨⟨fun b o h=>?_,fun b c ro o s h=>?_⟩,JG,⟨fun b r h=>?_,fun b r o h ho=>?_,fun b b' r r' o _ _ hw=>absurd hw (JG b),fun b o h=>?_⟩⟩
 .rw[(dz b o h).1];exact Nat.zero_lt_one
 .have:=(dz b _ h).2;cases this;exact dw _
 .by_cases e:b=0
  .simp only[e,if_true,jm] at h;subst h;subst e;exact⟨Nat.zero_lt_one,(Array.getElem?_eq_some_iff.mp hw).1⟩
  .simp[e] at h
 .obtain⟨rfl,rfl⟩:=dz b o ho;simp only[if_true,jm] at h;subst h;exact⟨⟨cs⟩,el,fr,hw,rfl,rfl,by simp,(fun h=>by cases h),fun j v hv=>⟨v,by simpa using hv,.cell (kh (ID v (dG hv)))⟩⟩
 .rw[(dz b o h).1];exact Nat.zero_lt_one
end
end Go.AI
namespace Go.Proofs.YtdhnndleffachaaGreatDoor
open Go.AI
noncomputable def Io(f:Nat):Option Func:=
 bif Nat.beq f 0 then some Tryz.f0 else
 bif Nat.beq f 1 then some Tryz.f1 else
 bif Nat.beq f 2 then some Tryz.f2 else
 bif Nat.beq f 3 then some Tryz.f3 else
 bif Nat.beq f 4 then some Tryz.f4 else
 bif Nat.beq f 5 then some Tryz.f5 else
 bif Nat.beq f 6 then some Tryz.f6 else
 bif Nat.beq f 7 then some Tryz.f7 else
 bif Nat.beq f 8 then some Tryz.f8 else
 bif Nat.beq f 9 then some Tryz.f9 else
 bif Nat.beq f 10 then some Tryz.f10 else
 bif Nat.beq f 11 then some Tryz.f11 else
 bif Nat.beq f 12 then some Tryz.f12 else
 bif Nat.beq f 13 then some Tryz.f13 else
 bif Nat.beq f 14 then some Tryz.f14 else
 bif Nat.beq f 15 then some Tryz.f15 else
 bif Nat.beq f 16 then some Tryz.f16 else
 bif Nat.beq f 17 then some Tryz.f17 else
 bif Nat.beq f 18 then some Tryz.f18 else
 bif Nat.beq f 19 then some Tryz.f19 else
 bif Nat.beq f 20 then some Tryz.f20 else
 bif Nat.beq f 21 then some Tryz.f21 else
 bif Nat.beq f 22 then some Tryz.f22 else
 bif Nat.beq f 23 then some Tryz.f23 else
 bif Nat.beq f 24 then some Tryz.f24 else
 bif Nat.beq f 25 then some Tryz.f25 else
 bif Nat.beq f 26 then some Tryz.f26 else
 bif Nat.beq f 27 then some Tryz.f27 else
 bif Nat.beq f 28 then some Tryz.f28 else
 bif Nat.beq f 29 then some Tryz.f29 else
 bif Nat.beq f 30 then some Tryz.f30 else
 bif Nat.beq f 31 then some Tryz.f31 else
 bif Nat.beq f 32 then some Tryz.f32 else
 bif Nat.beq f 33 then some Tryz.f33 else
 bif Nat.beq f 34 then some Tryz.f34 else
 bif Nat.beq f 35 then some Tryz.f35 else
 bif Nat.beq f 36 then some Tryz.f36 else
 bif Nat.beq f 37 then some Tryz.f37 else
 bif Nat.beq f 38 then some Tryz.f38 else
 bif Nat.beq f 39 then some Tryz.f39 else
 bif Nat.beq f 40 then some Tryz.f40 else
 bif Nat.beq f 41 then some Tryz.f41 else
 bif Nat.beq f 42 then some Tryz.f42 else
 bif Nat.beq f 43 then some Tryz.f43 else
 bif Nat.beq f 44 then some Tryz.f44 else
 bif Nat.beq f 45 then some Tryz.f45 else
 bif Nat.beq f 46 then some Tryz.f46 else
 bif Nat.beq f 47 then some Tryz.f47 else
 bif Nat.beq f 48 then some Tryz.f48 else
 bif Nat.beq f 49 then some Tryz.f49 else
 bif Nat.beq f 50 then some Tryz.f50 else
 bif Nat.beq f 51 then some Tryz.f51 else
 bif Nat.beq f 52 then some Tryz.f52 else
 bif Nat.beq f 53 then some Tryz.f53 else
 bif Nat.beq f 54 then some Tryz.f54 else
 bif Nat.beq f 55 then some Tryz.f55 else
 bif Nat.beq f 56 then some Tryz.f56 else
 bif Nat.beq f 57 then some Tryz.f57 else
 bif Nat.beq f 58 then some Tryz.f58 else
 bif Nat.beq f 59 then some Tryz.f59 else
 none
theorem Nl:∀f fn,Io f=some fn->Tryz.prog.funcs[f]?=some fn:=by
 intro f fn h;unfold Io at h;rcases aj h Tryz.func0 with h|h
 .exact h
 rcases aj h Tryz.func1 with h|h
 .exact h
 rcases aj h Tryz.func2 with h|h
 .exact h
 rcases aj h Tryz.func3 with h|h
 .exact h
 rcases aj h Tryz.func4 with h|h
 .exact h
 rcases aj h Tryz.func5 with h|h
 .exact h
 rcases aj h Tryz.func6 with h|h
 .exact h
 rcases aj h Tryz.func7 with h|h
 .exact h
 rcases aj h Tryz.func8 with h|h
 .exact h
 rcases aj h Tryz.func9 with h|h
 .exact h
 rcases aj h Tryz.func10 with h|h
 .exact h
 rcases aj h Tryz.func11 with h|h
 .exact h
 rcases aj h Tryz.func12 with h|h
 .exact h
 rcases aj h Tryz.func13 with h|h
 .exact h
 rcases aj h Tryz.func14 with h|h
 .exact h
 rcases aj h Tryz.func15 with h|h
 .exact h
 rcases aj h Tryz.func16 with h|h
 .exact h
 rcases aj h Tryz.func17 with h|h
 .exact h
 rcases aj h Tryz.func18 with h|h
 .exact h
 rcases aj h Tryz.func19 with h|h
 .exact h
 rcases aj h Tryz.func20 with h|h
 .exact h
 rcases aj h Tryz.func21 with h|h
 .exact h
 rcases aj h Tryz.func22 with h|h
 .exact h
 rcases aj h Tryz.func23 with h|h
 .exact h
 rcases aj h Tryz.func24 with h|h
 .exact h
 rcases aj h Tryz.func25 with h|h
 .exact h
 rcases aj h Tryz.func26 with h|h
 .exact h
 rcases aj h Tryz.func27 with h|h
 .exact h
 rcases aj h Tryz.func28 with h|h
 .exact h
 rcases aj h Tryz.func29 with h|h
 .exact h
 rcases aj h Tryz.func30 with h|h
 .exact h
 rcases aj h Tryz.func31 with h|h
 .exact h
 rcases aj h Tryz.func32 with h|h
 .exact h
 rcases aj h Tryz.func33 with h|h
 .exact h
 rcases aj h Tryz.func34 with h|h
 .exact h
 rcases aj h Tryz.func35 with h|h
 .exact h
 rcases aj h Tryz.func36 with h|h
 .exact h
 rcases aj h Tryz.func37 with h|h
 .exact h
 rcases aj h Tryz.func38 with h|h
 .exact h
 rcases aj h Tryz.func39 with h|h
 .exact h
 rcases aj h Tryz.func40 with h|h
 .exact h
 rcases aj h Tryz.func41 with h|h
 .exact h
 rcases aj h Tryz.func42 with h|h
 .exact h
 rcases aj h Tryz.func43 with h|h
 .exact h
 rcases aj h Tryz.func44 with h|h
 .exact h
 rcases aj h Tryz.func45 with h|h
 .exact h
 rcases aj h Tryz.func46 with h|h
 .exact h
 rcases aj h Tryz.func47 with h|h
 .exact h
 rcases aj h Tryz.func48 with h|h
 .exact h
 rcases aj h Tryz.func49 with h|h
 .exact h
 rcases aj h Tryz.func50 with h|h
 .exact h
 rcases aj h Tryz.func51 with h|h
 .exact h
 rcases aj h Tryz.func52 with h|h
 .exact h
 rcases aj h Tryz.func53 with h|h
 .exact h
 rcases aj h Tryz.func54 with h|h
 .exact h
 rcases aj h Tryz.func55 with h|h
 .exact h
 rcases aj h Tryz.func56 with h|h
 .exact h
 rcases aj h Tryz.func57 with h|h
 .exact h
 rcases aj h Tryz.func58 with h|h
 .exact h
 rcases aj h Tryz.func59 with h|h
 .exact h
 cases h
noncomputable def Ip(f:Nat):Option Func:=
 bif Nat.beq f 60 then some Tryz.f60 else
 bif Nat.beq f 61 then some Tryz.f61 else
 bif Nat.beq f 62 then some Tryz.f62 else
 bif Nat.beq f 63 then some Tryz.f63 else
 bif Nat.beq f 64 then some Tryz.f64 else
 bif Nat.beq f 65 then some Tryz.f65 else
 bif Nat.beq f 66 then some Tryz.f66 else
 bif Nat.beq f 67 then some Tryz.f67 else
 bif Nat.beq f 68 then some Tryz.f68 else
 bif Nat.beq f 69 then some Tryz.f69 else
 bif Nat.beq f 70 then some Tryz.f70 else
 bif Nat.beq f 71 then some Tryz.f71 else
 bif Nat.beq f 72 then some Tryz.f72 else
 bif Nat.beq f 73 then some Tryz.f73 else
 bif Nat.beq f 74 then some Tryz.f74 else
 bif Nat.beq f 75 then some Tryz.f75 else
 bif Nat.beq f 76 then some Tryz.f76 else
 bif Nat.beq f 77 then some Tryz.f77 else
 bif Nat.beq f 78 then some Tryz.f78 else
 bif Nat.beq f 79 then some Tryz.f79 else
 bif Nat.beq f 80 then some Tryz.f80 else
 bif Nat.beq f 81 then some Tryz.f81 else
 bif Nat.beq f 82 then some Tryz.f82 else
 bif Nat.beq f 83 then some Tryz.f83 else
 bif Nat.beq f 84 then some Tryz.f84 else
 bif Nat.beq f 85 then some Tryz.f85 else
 bif Nat.beq f 86 then some Tryz.f86 else
 bif Nat.beq f 87 then some Tryz.f87 else
 bif Nat.beq f 88 then some Tryz.f88 else
 bif Nat.beq f 89 then some Tryz.f89 else
 bif Nat.beq f 90 then some Tryz.f90 else
 bif Nat.beq f 91 then some Tryz.f91 else
 bif Nat.beq f 92 then some Tryz.f92 else
 bif Nat.beq f 93 then some Tryz.f93 else
 bif Nat.beq f 94 then some Tryz.f94 else
 bif Nat.beq f 95 then some Tryz.f95 else
 bif Nat.beq f 96 then some Tryz.f96 else
 bif Nat.beq f 97 then some Tryz.f97 else
 bif Nat.beq f 98 then some Tryz.f98 else
 bif Nat.beq f 99 then some Tryz.f99 else
 bif Nat.beq f 100 then some Tryz.f100 else
 bif Nat.beq f 101 then some Tryz.f101 else
 bif Nat.beq f 102 then some Tryz.f102 else
 bif Nat.beq f 103 then some Tryz.f103 else
 bif Nat.beq f 104 then some Tryz.f104 else
 bif Nat.beq f 105 then some Tryz.f105 else
 bif Nat.beq f 106 then some Tryz.f106 else
 bif Nat.beq f 107 then some Tryz.f107 else
 bif Nat.beq f 108 then some Tryz.f108 else
 bif Nat.beq f 109 then some Tryz.f109 else
 bif Nat.beq f 110 then some Tryz.f110 else
 bif Nat.beq f 111 then some Tryz.f111 else
 bif Nat.beq f 112 then some Tryz.f112 else
 bif Nat.beq f 113 then some Tryz.f113 else
 bif Nat.beq f 114 then some Tryz.f114 else
 bif Nat.beq f 115 then some Tryz.f115 else
 bif Nat.beq f 116 then some Tryz.f116 else
 bif Nat.beq f 117 then some Tryz.f117 else
 bif Nat.beq f 118 then some Tryz.f118 else
 bif Nat.beq f 119 then some Tryz.f119 else
 none
theorem Nn:∀f fn,Ip f=some fn->Tryz.prog.funcs[f]?=some fn:=by
 intro f fn h;unfold Ip at h;rcases aj h Tryz.func60 with h|h
 .exact h
 rcases aj h Tryz.func61 with h|h
 .exact h
 rcases aj h Tryz.func62 with h|h
 .exact h
 rcases aj h Tryz.func63 with h|h
 .exact h
 rcases aj h Tryz.func64 with h|h
 .exact h
 rcases aj h Tryz.func65 with h|h
 .exact h
 rcases aj h Tryz.func66 with h|h
 .exact h
 rcases aj h Tryz.func67 with h|h
 .exact h
 rcases aj h Tryz.func68 with h|h
 .exact h
 rcases aj h Tryz.func69 with h|h
 .exact h
 rcases aj h Tryz.func70 with h|h
 .exact h
 rcases aj h Tryz.func71 with h|h
 .exact h
 rcases aj h Tryz.func72 with h|h
 .exact h
 rcases aj h Tryz.func73 with h|h
 .exact h
 rcases aj h Tryz.func74 with h|h
 .exact h
 rcases aj h Tryz.func75 with h|h
 .exact h
 rcases aj h Tryz.func76 with h|h
 .exact h
 rcases aj h Tryz.func77 with h|h
 .exact h
 rcases aj h Tryz.func78 with h|h
 .exact h
 rcases aj h Tryz.func79 with h|h
 .exact h
 rcases aj h Tryz.func80 with h|h
 .exact h
 rcases aj h Tryz.func81 with h|h
 .exact h
 rcases aj h Tryz.func82 with h|h
 .exact h
 rcases aj h Tryz.func83 with h|h
 .exact h
 rcases aj h Tryz.func84 with h|h
 .exact h
 rcases aj h Tryz.func85 with h|h
 .exact h
 rcases aj h Tryz.func86 with h|h
 .exact h
 rcases aj h Tryz.func87 with h|h
 .exact h
 rcases aj h Tryz.func88 with h|h
 .exact h
 rcases aj h Tryz.func89 with h|h
 .exact h
 rcases aj h Tryz.func90 with h|h
 .exact h
 rcases aj h Tryz.func91 with h|h
 .exact h
 rcases aj h Tryz.func92 with h|h
 .exact h
 rcases aj h Tryz.func93 with h|h
 .exact h
 rcases aj h Tryz.func94 with h|h
 .exact h
 rcases aj h Tryz.func95 with h|h
 .exact h
 rcases aj h Tryz.func96 with h|h
 .exact h
 rcases aj h Tryz.func97 with h|h
 .exact h
 rcases aj h Tryz.func98 with h|h
 .exact h
 rcases aj h Tryz.func99 with h|h
 .exact h
 rcases aj h Tryz.func100 with h|h
 .exact h
 rcases aj h Tryz.func101 with h|h
 .exact h
 rcases aj h Tryz.func102 with h|h
 .exact h
 rcases aj h Tryz.func103 with h|h
 .exact h
 rcases aj h Tryz.func104 with h|h
 .exact h
 rcases aj h Tryz.func105 with h|h
 .exact h
 rcases aj h Tryz.func106 with h|h
 .exact h
 rcases aj h Tryz.func107 with h|h
 .exact h
 rcases aj h Tryz.func108 with h|h
 .exact h
 rcases aj h Tryz.func109 with h|h
 .exact h
 rcases aj h Tryz.func110 with h|h
 .exact h
 rcases aj h Tryz.func111 with h|h
 .exact h
 rcases aj h Tryz.func112 with h|h
 .exact h
 rcases aj h Tryz.func113 with h|h
 .exact h
 rcases aj h Tryz.func114 with h|h
 .exact h
 rcases aj h Tryz.func115 with h|h
 .exact h
 rcases aj h Tryz.func116 with h|h
 .exact h
 rcases aj h Tryz.func117 with h|h
 .exact h
 rcases aj h Tryz.func118 with h|h
 .exact h
 rcases aj h Tryz.func119 with h|h
 .exact h
 cases h
noncomputable def Iq(f:Nat):Option Func:=
 bif Nat.beq f 120 then some Tryz.f120 else
 bif Nat.beq f 121 then some Tryz.f121 else
 bif Nat.beq f 122 then some Tryz.f122 else
 bif Nat.beq f 123 then some Tryz.f123 else
 bif Nat.beq f 124 then some Tryz.f124 else
 bif Nat.beq f 125 then some Tryz.f125 else
 bif Nat.beq f 126 then some Tryz.f126 else
 bif Nat.beq f 127 then some Tryz.f127 else
 bif Nat.beq f 128 then some Tryz.f128 else
 bif Nat.beq f 129 then some Tryz.f129 else
 bif Nat.beq f 130 then some Tryz.f130 else
 bif Nat.beq f 131 then some Tryz.f131 else
 bif Nat.beq f 132 then some Tryz.f132 else
 bif Nat.beq f 133 then some Tryz.f133 else
 bif Nat.beq f 134 then some Tryz.f134 else
 bif Nat.beq f 135 then some Tryz.f135 else
 bif Nat.beq f 136 then some Tryz.f136 else
 bif Nat.beq f 137 then some Tryz.f137 else
 bif Nat.beq f 138 then some Tryz.f138 else
 bif Nat.beq f 139 then some Tryz.f139 else
 bif Nat.beq f 140 then some Tryz.f140 else
 bif Nat.beq f 141 then some Tryz.f141 else
 bif Nat.beq f 142 then some Tryz.f142 else
 bif Nat.beq f 143 then some Tryz.f143 else
 bif Nat.beq f 144 then some Tryz.f144 else
 bif Nat.beq f 145 then some Tryz.f145 else
 bif Nat.beq f 146 then some Tryz.f146 else
 bif Nat.beq f 147 then some Tryz.f147 else
 bif Nat.beq f 148 then some Tryz.f148 else
 bif Nat.beq f 149 then some Tryz.f149 else
 bif Nat.beq f 150 then some Tryz.f150 else
 bif Nat.beq f 151 then some Tryz.f151 else
 bif Nat.beq f 152 then some Tryz.f152 else
 bif Nat.beq f 153 then some Tryz.f153 else
 bif Nat.beq f 154 then some Tryz.f154 else
 bif Nat.beq f 155 then some Tryz.f155 else
 bif Nat.beq f 156 then some Tryz.f156 else
 bif Nat.beq f 157 then some Tryz.f157 else
 bif Nat.beq f 158 then some Tryz.f158 else
 bif Nat.beq f 159 then some Tryz.f159 else
 bif Nat.beq f 160 then some Tryz.f160 else
 bif Nat.beq f 161 then some Tryz.f161 else
 bif Nat.beq f 162 then some Tryz.f162 else
 bif Nat.beq f 163 then some Tryz.f163 else
 bif Nat.beq f 164 then some Tryz.f164 else
 bif Nat.beq f 165 then some Tryz.f165 else
 bif Nat.beq f 166 then some Tryz.f166 else
 bif Nat.beq f 167 then some Tryz.f167 else
 bif Nat.beq f 168 then some Tryz.f168 else
 bif Nat.beq f 169 then some Tryz.f169 else
 bif Nat.beq f 170 then some Tryz.f170 else
 bif Nat.beq f 171 then some Tryz.f171 else
 bif Nat.beq f 172 then some Tryz.f172 else
 bif Nat.beq f 173 then some Tryz.f173 else
 bif Nat.beq f 174 then some Tryz.f174 else
 bif Nat.beq f 175 then some Tryz.f175 else
 bif Nat.beq f 176 then some Tryz.f176 else
 bif Nat.beq f 177 then some Tryz.f177 else
 bif Nat.beq f 178 then some Tryz.f178 else
 bif Nat.beq f 179 then some Tryz.f179 else
 none
theorem No:∀f fn,Iq f=some fn->Tryz.prog.funcs[f]?=some fn:=by
 intro f fn h;unfold Iq at h;rcases aj h Tryz.func120 with h|h
 .exact h
 rcases aj h Tryz.func121 with h|h
 .exact h
 rcases aj h Tryz.func122 with h|h
 .exact h
 rcases aj h Tryz.func123 with h|h
 .exact h
 rcases aj h Tryz.func124 with h|h
 .exact h
 rcases aj h Tryz.func125 with h|h
 .exact h
 rcases aj h Tryz.func126 with h|h
 .exact h
 rcases aj h Tryz.func127 with h|h
 .exact h
 rcases aj h Tryz.func128 with h|h
 .exact h
 rcases aj h Tryz.func129 with h|h
 .exact h
 rcases aj h Tryz.func130 with h|h
 .exact h
 rcases aj h Tryz.func131 with h|h
 .exact h
 rcases aj h Tryz.func132 with h|h
 .exact h
 rcases aj h Tryz.func133 with h|h
 .exact h
 rcases aj h Tryz.func134 with h|h
 .exact h
 rcases aj h Tryz.func135 with h|h
 .exact h
 rcases aj h Tryz.func136 with h|h
 .exact h
 rcases aj h Tryz.func137 with h|h
 .exact h
 rcases aj h Tryz.func138 with h|h
 .exact h
 rcases aj h Tryz.func139 with h|h
 .exact h
 rcases aj h Tryz.func140 with h|h
 .exact h
 rcases aj h Tryz.func141 with h|h
 .exact h
 rcases aj h Tryz.func142 with h|h
 .exact h
 rcases aj h Tryz.func143 with h|h
 .exact h
 rcases aj h Tryz.func144 with h|h
 .exact h
 rcases aj h Tryz.func145 with h|h
 .exact h
 rcases aj h Tryz.func146 with h|h
 .exact h
 rcases aj h Tryz.func147 with h|h
 .exact h
 rcases aj h Tryz.func148 with h|h
 .exact h
 rcases aj h Tryz.func149 with h|h
 .exact h
 rcases aj h Tryz.func150 with h|h
 .exact h
 rcases aj h Tryz.func151 with h|h
 .exact h
 rcases aj h Tryz.func152 with h|h
 .exact h
 rcases aj h Tryz.func153 with h|h
 .exact h
 rcases aj h Tryz.func154 with h|h
 .exact h
 rcases aj h Tryz.func155 with h|h
 .exact h
 rcases aj h Tryz.func156 with h|h
 .exact h
 rcases aj h Tryz.func157 with h|h
 .exact h
 rcases aj h Tryz.func158 with h|h
 .exact h
 rcases aj h Tryz.func159 with h|h
 .exact h
 rcases aj h Tryz.func160 with h|h
 .exact h
 rcases aj h Tryz.func161 with h|h
 .exact h
 rcases aj h Tryz.func162 with h|h
 .exact h
 rcases aj h Tryz.func163 with h|h
 .exact h
 rcases aj h Tryz.func164 with h|h
 .exact h
 rcases aj h Tryz.func165 with h|h
 .exact h
 rcases aj h Tryz.func166 with h|h
 .exact h
 rcases aj h Tryz.func167 with h|h
 .exact h
 rcases aj h Tryz.func168 with h|h
 .exact h
 rcases aj h Tryz.func169 with h|h
 .exact h
 rcases aj h Tryz.func170 with h|h
 .exact h
 rcases aj h Tryz.func171 with h|h
 .exact h
 rcases aj h Tryz.func172 with h|h
 .exact h
 rcases aj h Tryz.func173 with h|h
 .exact h
 rcases aj h Tryz.func174 with h|h
 .exact h
 rcases aj h Tryz.func175 with h|h
 .exact h
 rcases aj h Tryz.func176 with h|h
 .exact h
 rcases aj h Tryz.func177 with h|h
 .exact h
 rcases aj h Tryz.func178 with h|h
 .exact h
 rcases aj h Tryz.func179 with h|h
 .exact h
 cases h
noncomputable def Ir(f:Nat):Option Func:=
 bif Nat.beq f 180 then some Tryz.f180 else
 bif Nat.beq f 181 then some Tryz.f181 else
 bif Nat.beq f 182 then some Tryz.f182 else
 bif Nat.beq f 183 then some Tryz.f183 else
 bif Nat.beq f 184 then some Tryz.f184 else
 bif Nat.beq f 185 then some Tryz.f185 else
 bif Nat.beq f 186 then some Tryz.f186 else
 bif Nat.beq f 187 then some Tryz.f187 else
 bif Nat.beq f 188 then some Tryz.f188 else
 bif Nat.beq f 189 then some Tryz.f189 else
 bif Nat.beq f 190 then some Tryz.f190 else
 bif Nat.beq f 191 then some Tryz.f191 else
 bif Nat.beq f 192 then some Tryz.f192 else
 bif Nat.beq f 193 then some Tryz.f193 else
 bif Nat.beq f 194 then some Tryz.f194 else
 bif Nat.beq f 195 then some Tryz.f195 else
 bif Nat.beq f 196 then some Tryz.f196 else
 bif Nat.beq f 197 then some Tryz.f197 else
 bif Nat.beq f 198 then some Tryz.f198 else
 bif Nat.beq f 199 then some Tryz.f199 else
 bif Nat.beq f 200 then some Tryz.f200 else
 bif Nat.beq f 201 then some Tryz.f201 else
 bif Nat.beq f 202 then some Tryz.f202 else
 bif Nat.beq f 203 then some Tryz.f203 else
 bif Nat.beq f 204 then some Tryz.f204 else
 bif Nat.beq f 205 then some Tryz.f205 else
 bif Nat.beq f 206 then some Tryz.f206 else
 bif Nat.beq f 207 then some Tryz.f207 else
 bif Nat.beq f 208 then some Tryz.f208 else
 bif Nat.beq f 209 then some Tryz.f209 else
 bif Nat.beq f 210 then some Tryz.f210 else
 bif Nat.beq f 211 then some Tryz.f211 else
 bif Nat.beq f 212 then some Tryz.f212 else
 bif Nat.beq f 213 then some Tryz.f213 else
 bif Nat.beq f 214 then some Tryz.f214 else
 bif Nat.beq f 215 then some Tryz.f215 else
 bif Nat.beq f 216 then some Tryz.f216 else
 bif Nat.beq f 217 then some Tryz.f217 else
 bif Nat.beq f 218 then some Tryz.f218 else
 bif Nat.beq f 219 then some Tryz.f219 else
 bif Nat.beq f 220 then some Tryz.f220 else
 bif Nat.beq f 221 then some Tryz.f221 else
 bif Nat.beq f 222 then some Tryz.f222 else
 bif Nat.beq f 223 then some Tryz.f223 else
 bif Nat.beq f 224 then some Tryz.f224 else
 bif Nat.beq f 225 then some Tryz.f225 else
 bif Nat.beq f 226 then some Tryz.f226 else
 bif Nat.beq f 227 then some Tryz.f227 else
 bif Nat.beq f 228 then some Tryz.f228 else
 bif Nat.beq f 229 then some Tryz.f229 else
 bif Nat.beq f 230 then some Tryz.f230 else
 bif Nat.beq f 231 then some Tryz.f231 else
 bif Nat.beq f 232 then some Tryz.f232 else
 bif Nat.beq f 233 then some Tryz.f233 else
 bif Nat.beq f 234 then some Tryz.f234 else
 bif Nat.beq f 235 then some Tryz.f235 else
 bif Nat.beq f 236 then some Tryz.f236 else
 bif Nat.beq f 237 then some Tryz.f237 else
 bif Nat.beq f 238 then some Tryz.f238 else
 bif Nat.beq f 239 then some Tryz.f239 else
 none
theorem Np:∀f fn,Ir f=some fn->Tryz.prog.funcs[f]?=some fn:=by
 intro f fn h;unfold Ir at h;rcases aj h Tryz.func180 with h|h
 .exact h
 rcases aj h Tryz.func181 with h|h
 .exact h
 rcases aj h Tryz.func182 with h|h
 .exact h
 rcases aj h Tryz.func183 with h|h
 .exact h
 rcases aj h Tryz.func184 with h|h
 .exact h
 rcases aj h Tryz.func185 with h|h
 .exact h
 rcases aj h Tryz.func186 with h|h
 .exact h
 rcases aj h Tryz.func187 with h|h
 .exact h
 rcases aj h Tryz.func188 with h|h
 .exact h
 rcases aj h Tryz.func189 with h|h
 .exact h
 rcases aj h Tryz.func190 with h|h
 .exact h
 rcases aj h Tryz.func191 with h|h
 .exact h
 rcases aj h Tryz.func192 with h|h
 .exact h
 rcases aj h Tryz.func193 with h|h
 .exact h
 rcases aj h Tryz.func194 with h|h
 .exact h
 rcases aj h Tryz.func195 with h|h
 .exact h
 rcases aj h Tryz.func196 with h|h
 .exact h
 rcases aj h Tryz.func197 with h|h
 .exact h
 rcases aj h Tryz.func198 with h|h
 .exact h
 rcases aj h Tryz.func199 with h|h
 .exact h
 rcases aj h Tryz.func200 with h|h
 .exact h
 rcases aj h Tryz.func201 with h|h
 .exact h
 rcases aj h Tryz.func202 with h|h
 .exact h
 rcases aj h Tryz.func203 with h|h
 .exact h
 rcases aj h Tryz.func204 with h|h
 .exact h
 rcases aj h Tryz.func205 with h|h
 .exact h
 rcases aj h Tryz.func206 with h|h
 .exact h
 rcases aj h Tryz.func207 with h|h
 .exact h
 rcases aj h Tryz.func208 with h|h
 .exact h
 rcases aj h Tryz.func209 with h|h
 .exact h
 rcases aj h Tryz.func210 with h|h
 .exact h
 rcases aj h Tryz.func211 with h|h
 .exact h
 rcases aj h Tryz.func212 with h|h
 .exact h
 rcases aj h Tryz.func213 with h|h
 .exact h
 rcases aj h Tryz.func214 with h|h
 .exact h
 rcases aj h Tryz.func215 with h|h
 .exact h
 rcases aj h Tryz.func216 with h|h
 .exact h
 rcases aj h Tryz.func217 with h|h
 .exact h
 rcases aj h Tryz.func218 with h|h
 .exact h
 rcases aj h Tryz.func219 with h|h
 .exact h
 rcases aj h Tryz.func220 with h|h
 .exact h
 rcases aj h Tryz.func221 with h|h
 .exact h
 rcases aj h Tryz.func222 with h|h
 .exact h
 rcases aj h Tryz.func223 with h|h
 .exact h
 rcases aj h Tryz.func224 with h|h
 .exact h
 rcases aj h Tryz.func225 with h|h
 .exact h
 rcases aj h Tryz.func226 with h|h
 .exact h
 rcases aj h Tryz.func227 with h|h
 .exact h
 rcases aj h Tryz.func228 with h|h
 .exact h
 rcases aj h Tryz.func229 with h|h
 .exact h
 rcases aj h Tryz.func230 with h|h
 .exact h
 rcases aj h Tryz.func231 with h|h
 .exact h
 rcases aj h Tryz.func232 with h|h
 .exact h
 rcases aj h Tryz.func233 with h|h
 .exact h
 rcases aj h Tryz.func234 with h|h
 .exact h
 rcases aj h Tryz.func235 with h|h
 .exact h
 rcases aj h Tryz.func236 with h|h
 .exact h
 rcases aj h Tryz.func237 with h|h
 .exact h
 rcases aj h Tryz.func238 with h|h
 .exact h
 rcases aj h Tryz.func239 with h|h
 .exact h
 cases h
noncomputable def Is(f:Nat):Option Func:=
 bif Nat.beq f 240 then some Tryz.f240 else
 bif Nat.beq f 241 then some Tryz.f241 else
 bif Nat.beq f 242 then some Tryz.f242 else
 bif Nat.beq f 243 then some Tryz.f243 else
 bif Nat.beq f 244 then some Tryz.f244 else
 bif Nat.beq f 245 then some Tryz.f245 else
 bif Nat.beq f 246 then some Tryz.f246 else
 bif Nat.beq f 247 then some Tryz.f247 else
 bif Nat.beq f 248 then some Tryz.f248 else
 bif Nat.beq f 249 then some Tryz.f249 else
 bif Nat.beq f 250 then some Tryz.f250 else
 bif Nat.beq f 251 then some Tryz.f251 else
 bif Nat.beq f 252 then some Tryz.f252 else
 bif Nat.beq f 253 then some Tryz.f253 else
 bif Nat.beq f 254 then some Tryz.f254 else
 bif Nat.beq f 255 then some Tryz.f255 else
 bif Nat.beq f 256 then some Tryz.f256 else
 bif Nat.beq f 257 then some Tryz.f257 else
 bif Nat.beq f 258 then some Tryz.f258 else
 bif Nat.beq f 259 then some Tryz.f259 else
 bif Nat.beq f 260 then some Tryz.f260 else
 bif Nat.beq f 261 then some Tryz.f261 else
 bif Nat.beq f 262 then some Tryz.f262 else
 bif Nat.beq f 263 then some Tryz.f263 else
 bif Nat.beq f 264 then some Tryz.f264 else
 bif Nat.beq f 265 then some Tryz.f265 else
 bif Nat.beq f 266 then some Tryz.f266 else
 bif Nat.beq f 267 then some Tryz.f267 else
 bif Nat.beq f 268 then some Tryz.f268 else
 bif Nat.beq f 269 then some Tryz.f269 else
 bif Nat.beq f 270 then some Tryz.f270 else
 bif Nat.beq f 271 then some Tryz.f271 else
 bif Nat.beq f 272 then some Tryz.f272 else
 bif Nat.beq f 273 then some Tryz.f273 else
 bif Nat.beq f 274 then some Tryz.f274 else
 bif Nat.beq f 275 then some Tryz.f275 else
 bif Nat.beq f 276 then some Tryz.f276 else
 bif Nat.beq f 277 then some Tryz.f277 else
 bif Nat.beq f 278 then some Tryz.f278 else
 bif Nat.beq f 279 then some Tryz.f279 else
 bif Nat.beq f 280 then some Tryz.f280 else
 bif Nat.beq f 281 then some Tryz.f281 else
 bif Nat.beq f 282 then some Tryz.f282 else
 bif Nat.beq f 283 then some Tryz.f283 else
 bif Nat.beq f 284 then some Tryz.f284 else
 bif Nat.beq f 285 then some Tryz.f285 else
 bif Nat.beq f 286 then some Tryz.f286 else
 bif Nat.beq f 287 then some Tryz.f287 else
 bif Nat.beq f 288 then some Tryz.f288 else
 bif Nat.beq f 289 then some Tryz.f289 else
 bif Nat.beq f 290 then some Tryz.f290 else
 bif Nat.beq f 291 then some Tryz.f291 else
 bif Nat.beq f 292 then some Tryz.f292 else
 bif Nat.beq f 293 then some Tryz.f293 else
 bif Nat.beq f 294 then some Tryz.f294 else
 bif Nat.beq f 295 then some Tryz.f295 else
 bif Nat.beq f 296 then some Tryz.f296 else
 bif Nat.beq f 297 then some Tryz.f297 else
 bif Nat.beq f 298 then some Tryz.f298 else
 bif Nat.beq f 299 then some Tryz.f299 else
 none
theorem Nq:∀f fn,Is f=some fn->Tryz.prog.funcs[f]?=some fn:=by
 intro f fn h;unfold Is at h;rcases aj h Tryz.func240 with h|h
 .exact h
 rcases aj h Tryz.func241 with h|h
 .exact h
 rcases aj h Tryz.func242 with h|h
 .exact h
 rcases aj h Tryz.func243 with h|h
 .exact h
 rcases aj h Tryz.func244 with h|h
 .exact h
 rcases aj h Tryz.func245 with h|h
 .exact h
 rcases aj h Tryz.func246 with h|h
 .exact h
 rcases aj h Tryz.func247 with h|h
 .exact h
 rcases aj h Tryz.func248 with h|h
 .exact h
 rcases aj h Tryz.func249 with h|h
 .exact h
 rcases aj h Tryz.func250 with h|h
 .exact h
 rcases aj h Tryz.func251 with h|h
 .exact h
 rcases aj h Tryz.func252 with h|h
 .exact h
 rcases aj h Tryz.func253 with h|h
 .exact h
 rcases aj h Tryz.func254 with h|h
 .exact h
 rcases aj h Tryz.func255 with h|h
 .exact h
 rcases aj h Tryz.func256 with h|h
 .exact h
 rcases aj h Tryz.func257 with h|h
 .exact h
 rcases aj h Tryz.func258 with h|h
 .exact h
 rcases aj h Tryz.func259 with h|h
 .exact h
 rcases aj h Tryz.func260 with h|h
 .exact h
 rcases aj h Tryz.func261 with h|h
 .exact h
 rcases aj h Tryz.func262 with h|h
 .exact h
 rcases aj h Tryz.func263 with h|h
 .exact h
 rcases aj h Tryz.func264 with h|h
 .exact h
 rcases aj h Tryz.func265 with h|h
 .exact h
 rcases aj h Tryz.func266 with h|h
 .exact h
 rcases aj h Tryz.func267 with h|h
 .exact h
 rcases aj h Tryz.func268 with h|h
 .exact h
 rcases aj h Tryz.func269 with h|h
 .exact h
 rcases aj h Tryz.func270 with h|h
 .exact h
 rcases aj h Tryz.func271 with h|h
 .exact h
 rcases aj h Tryz.func272 with h|h
 .exact h
 rcases aj h Tryz.func273 with h|h
 .exact h
 rcases aj h Tryz.func274 with h|h
 .exact h
 rcases aj h Tryz.func275 with h|h
 .exact h
 rcases aj h Tryz.func276 with h|h
 .exact h
 rcases aj h Tryz.func277 with h|h
 .exact h
 rcases aj h Tryz.func278 with h|h
 .exact h
 rcases aj h Tryz.func279 with h|h
 .exact h
 rcases aj h Tryz.func280 with h|h
 .exact h
 rcases aj h Tryz.func281 with h|h
 .exact h
 rcases aj h Tryz.func282 with h|h
 .exact h
 rcases aj h Tryz.func283 with h|h
 .exact h
 rcases aj h Tryz.func284 with h|h
 .exact h
 rcases aj h Tryz.func285 with h|h
 .exact h
 rcases aj h Tryz.func286 with h|h
 .exact h
 rcases aj h Tryz.func287 with h|h
 .exact h
 rcases aj h Tryz.func288 with h|h
 .exact h
 rcases aj h Tryz.func289 with h|h
 .exact h
 rcases aj h Tryz.func290 with h|h
 .exact h
 rcases aj h Tryz.func291 with h|h
 .exact h
 rcases aj h Tryz.func292 with h|h
 .exact h
 rcases aj h Tryz.func293 with h|h
 .exact h
 rcases aj h Tryz.func294 with h|h
 .exact h
 rcases aj h Tryz.func295 with h|h
 .exact h
 rcases aj h Tryz.func296 with h|h
 .exact h
 rcases aj h Tryz.func297 with h|h
 .exact h
 rcases aj h Tryz.func298 with h|h
 .exact h
 rcases aj h Tryz.func299 with h|h
 .exact h
 cases h
noncomputable def It(f:Nat):Option Func:=
 bif Nat.beq f 300 then some Tryz.f300 else
 bif Nat.beq f 301 then some Tryz.f301 else
 bif Nat.beq f 302 then some Tryz.f302 else
 none
theorem Nr:∀f fn,It f=some fn->Tryz.prog.funcs[f]?=some fn:=by
 intro f fn h;unfold It at h;rcases aj h Tryz.func300 with h|h
 .exact h
 rcases aj h Tryz.func301 with h|h
 .exact h
 rcases aj h Tryz.func302 with h|h
 .exact h
 cases h
noncomputable def funcAt(f:Nat):Option Func:=
 bif Nat.ble f 59 then Io f else
 bif Nat.ble f 119 then Ip f else
 bif Nat.ble f 179 then Iq f else
 bif Nat.ble f 239 then Ir f else
 bif Nat.ble f 299 then Is f else
 It f
theorem Q7:∀f fn,funcAt f=some fn->Tryz.prog.funcs[f]?=some fn:=by
 intro f fn h;unfold funcAt at h;cases b0:Nat.ble f 59 with
 |true=>rw[b0] at h;exact Nl f fn h
 |false=>
 rw[b0] at h;dsimp only[cond_false] at h;cases b1:Nat.ble f 119 with
 |true=>rw[b1] at h;exact Nn f fn h
 |false=>
 rw[b1] at h;dsimp only[cond_false] at h;cases b2:Nat.ble f 179 with
 |true=>rw[b2] at h;exact No f fn h
 |false=>
 rw[b2] at h;dsimp only[cond_false] at h;cases b3:Nat.ble f 239 with
 |true=>rw[b3] at h;exact Np f fn h
 |false=>
 rw[b3] at h;dsimp only[cond_false] at h;cases b4:Nat.ble f 299 with
 |true=>rw[b4] at h;exact Nq f fn h
 |false=>
 rw[b4] at h;dsimp only[cond_false] at h;exact Nr f fn h
noncomputable def FF0:Nat->Option bM:=Jz (Iv Tryz.prog 1 funcAt) 218
noncomputable def FF:Nat->Option bM:=Ff FF0 166 2
set_option maxRecDepth 100000
def fN:aq:=(J_ (G_ [m_ 20 5,C_ 21 .leq 20 22] (H_ 21 0)) (J_ (P_ 1 (J_ (V_ [L_ 24 2 3,m_ 25 5,L_ 27 2 1,m_ 28 5,(F_ 26 24 [t_ 24,t_ 25],[1]),F_ 29 24 [t_ 27,t_ 28],X_ 30 .neq 26 29]) (I_ 30 (G_ [M_ 2 false] .ret) .skip))) (O_ [m_ 22 5,C_ 23 .add 22 1,m_ 5 23])))
abbrev lv:Nat:=6
def kX:aq:=(G_ [x_ 1 0,M_ 2 false] (J_ (G_ [L_ 6 2 1,F_ 7 11 [t_ 6]] (I_ 7 (G_ [M_ 2 true] .ret) .skip)) (G_ [L_ 9 2 1,F_ 10 22 [t_ 9],m_ 8 10,E_ 11 0 8,E_ 12 1 8,K_ 3 w8_,K_ 4 Jy,s_ 2 3 11,s_ 2 4 12] (J_ (G_ [f_ 13 0 4,l_ 14 13,Y_ 15 .neq 14 0] (I_ 15 (G_ [L_ 16 2 3,F_ 17 14 [t_ 16],m_ 2 17] .ret) .skip)) (J_ (G_ [L_ 18 2 3,F_ 19 14 [t_ 18]] (I_ 19 (G_ [M_ 2 false] .ret) .skip)) (J_ (G_ [k_ 5 19] (Q_ 0 fN)) (J_ (V_ [L_ 31 2 3,L_ 33 2 1,(F_ 32 24 [t_ 31,(i_ 18)],[1]),F_ 34 24 [t_ 33,(i_ 18)],X_ 35 .eql 32 34,m_ 36 35,q_ 37 36 true (.load (some 2) (t_ 3)),q_ 39 36 true (.load (some 2) (t_ 1)),(q_ 38 36 true (.call (.func 24) [t_ 37,(i_ 5)]),[1]),q_ 40 36 true (.call (.func 24) [t_ 39,(i_ 5)]),q_ 41 36 true (.bin .leq [] (t_ 38) (t_ 40)),o_ 42 (.pick (t_ 36) (t_ 41) (b_ false)),m_ 2 42]) .ret)))))))
theorem tP:FF lv=some ⟨[(.tmp 2)],kX,.no⟩:=by kernel_rfl
def iw:aq:=(J_ (G_ [m_ 13 5,f_ 14 1 1,l_ 15 14,m_ 16 3,a_ 17 4 15 16,f_ 18 3 17,l_ 19 18,z_ 20 19,B_ 21 .lss 13 20] (H_ 21 2)) (J_ (P_ 3 (V_ [m_ 24 4,f_ 25 1 1,l_ 26 25,m_ 27 3,a_ 28 4 26 27,f_ 29 3 28,l_ 30 29,m_ 31 5,a_ 32 6 30 31,f_ 33 0 32,l_ 34 33,z_ 35 34,B_ 36 .add 24 35,f_ 37 1 1,l_ 38 37,m_ 39 3,a_ 40 4 38 39,f_ 41 3 40,l_ 42 41,m_ 43 5,a_ 44 6 42 43,f_ 45 1 44,l_ 46 45,z_ 47 46,B_ 48 .add 36 47,m_ 4 48])) (O_ [m_ 22 5,C_ 23 .add 22 1,m_ 5 23])))
def mw:aq:=(J_ (G_ [m_ 6 3,f_ 7 1 1,l_ 8 7,z_ 9 8,B_ 10 .lss 6 9] (H_ 10 0)) (J_ (P_ 1 (G_ [k_ 4 0] (J_ (G_ [k_ 5 0] (Q_ 2 iw)) (G_ [f_ 49 1 1,l_ 50 49,m_ 51 3,a_ 52 4 50 51,f_ 53 3 52,l_ 54 53,z_ 55 54,C_ 56 .gtr 55 24,m_ 57 56,q_ 58 57 false (.mv (t_ 4)),q_ 59 57 false (.bin .gtr [] (t_ 58) (i_ 120)),o_ 60 (.pick (t_ 57) (b_ true) (t_ 59))] (I_ 60 (G_ [M_ 2 true] .ret) .skip))))) (O_ [m_ 11 3,C_ 12 .add 11 1,m_ 3 12])))
abbrev oy:Nat:=11
def n9:aq:=(G_ [x_ 1 0,M_ 2 false] (J_ (G_ [k_ 3 0] (Q_ 0 mw)) (G_ [f_ 61 1 1,l_ 62 61,z_ 63 62,C_ 64 .gtr 63 10,m_ 2 64] .ret)))
theorem vT:FF oy=some ⟨[(.tmp 2)],n9,.no⟩:=by kernel_rfl
def yn:aq:=(N_ 17 16 15 0 1 28 (G_ [m_ 18 16,a_ 19 4 14 16,L_ 20 4 19,K_ 5 TL,m_ 4 18,s_ 4 5 20] (G_ [L_ 21 4 5,F_ 22 35 [t_ 21],m_ 6 22] (G_ [m_ 23 6,Y_ 24 .neq 23 0] (I_ 24 (G_ [m_ 25 6,m_ 26 4,F_ 27 36 [t_ 25,t_ 26],s_ 2 2 27] .ret) .skip)))))
abbrev Cj:Nat:=13
def BK:aq:=(G_ [x_ 1 0,K_ 2 Jy] (J_ (G_ [L_ 7 2 1,F_ 8 34 [t_ 7],K_ 3 Jy,s_ 2 3 8] (G_ [L_ 9 2 3,o_ 10 (.build Jy []),o_ 11 (.bin .neq [9,1,1] (t_ 9) (t_ 10))] (I_ 11 (G_ [L_ 12 2 3,s_ 2 2 12] .ret) .skip))) (J_ (G_ [f_ 13 1 1,l_ 14 13,z_ 15 14,k_ 16 0] (Q_ 0 yn)) (G_ [o_ 29 (.build Jy []),s_ 2 2 29] .ret))))
theorem JZ:FF Cj=some ⟨[(.cell 2 (some 2))],BK,.no⟩:=by kernel_rfl
abbrev qK:Nat:=14
def qn:aq:=(G_ [x_ 1 0,M_ 2 false] (G_ [f_ 3 0 1,l_ 4 3,z_ 5 4,Y_ 6 .eql 5 0,m_ 7 6,q_ 8 7 true (.cP 1 (t_ 1)),q_ 9 7 true (.load none (t_ 8)),q_ 10 7 true (.uC (t_ 9)),q_ 11 7 true (.bin .eql [1] (t_ 10) (i_ 0)),o_ 12 (.pick (t_ 7) (t_ 11) (b_ false)),m_ 2 12] .ret))
theorem yF:FF qK=some ⟨[(.tmp 2)],qn,.no⟩:=by kernel_rfl
abbrev Er:Nat:=22
def Dw:aq:=(G_ [x_ 1 0,K_ 2 w8_,K_ 3 Jy] (J_ (G_ [L_ 6 2 1,F_ 7 13 [t_ 6],K_ 4 Jy,s_ 2 4 7] (G_ [L_ 8 2 4,o_ 9 (.build Jy []),o_ 10 (.bin .neq [9,1,1] (t_ 8) (t_ 9))] (I_ 10 (J_ (V_ [o_ 11 (.build w8_ []),L_ 12 2 4,(s_ 2 2 11,[4]),s_ 2 3 12]) .ret) .skip))) (G_ [L_ 13 2 1,F_ 14 30 [t_ 13],K_ 5 HA,s_ 1 5 14] (G_ [L_ 15 2 1,o_ 16 (.uM 52 [t_ 5]),F_ 17 31 [t_ 15,t_ 16],E_ 18 0 17,E_ 19 1 17,s_ 2 2 18,s_ 2 3 19] .ret))))
theorem M4:FF Er=some ⟨[(.cell 2 (some 2)),(.cell 3 (some 2))],Dw,.no⟩:=by kernel_rfl
def j_:aq:=(J_ (G_ [m_ 27 8,f_ 28 1 2,l_ 29 28,m_ 30 6,a_ 31 4 29 30,f_ 32 3 31,l_ 33 32,m_ 34 7,a_ 35 6 33 34,f_ 36 1 35,l_ 37 36,z_ 38 37,B_ 39 .lss 27 38] (H_ 39 4)) (J_ (P_ 5 (G_ [f_ 42 1 2,l_ 43 42,m_ 44 6,a_ 45 4 43 44,f_ 46 3 45,l_ 47 46,m_ 48 7,a_ 49 6 47 48,f_ 50 1 49,l_ 51 50,m_ 52 8,a_ 53 8 51 52,f_ 54 0 53,l_ 55 54,m_ 56 1,X_ 57 .eql 55 56] (I_ 57 (O_ [m_ 58 5,C_ 59 .add 58 1,m_ 5 59]) .skip))) (O_ [m_ 40 8,C_ 41 .add 40 1,m_ 8 41])))
def ka:aq:=(J_ (G_ [m_ 16 7,f_ 17 1 2,l_ 18 17,m_ 19 6,a_ 20 4 18 19,f_ 21 3 20,l_ 22 21,z_ 23 22,B_ 24 .lss 16 23] (H_ 24 2)) (J_ (P_ 3 (G_ [k_ 8 0] (Q_ 4 j_))) (O_ [m_ 25 7,C_ 26 .add 25 1,m_ 7 26])))
def pK:aq:=(J_ (G_ [m_ 9 6,f_ 10 1 2,l_ 11 10,z_ 12 11,B_ 13 .lss 9 12] (H_ 13 0)) (J_ (P_ 1 (G_ [k_ 7 0] (Q_ 2 ka))) (O_ [m_ 14 6,C_ 15 .add 14 1,m_ 6 15])))
abbrev sZ:Nat:=24
def sf:aq:=(.seq (.ops [⟨(some 2),none,(.box (.tmp 0))⟩,⟨(some 4),none,(.mv (.const (.int .i64 0)))⟩]) (.seq (.ops [⟨(some 5),none,(.mv (.const (.int .i64 0)))⟩]) (.seq (.seq (.ops [⟨(some 6),none,(.mv (.const (.int .i64 0)))⟩]) (.block 0 (.loop pK))) (.seq (.ops [⟨(some 60),none,(.mv (.tmp 5))⟩,⟨(some 4),none,(.mv (.tmp 60))⟩]) .ret))))
theorem zJ:FF sZ=some ⟨[(.tmp 4)],sf,.no⟩:=by kernel_rfl
def wH:aq:=(N_ 10 9 8 0 1 17 (G_ [a_ 11 3 7 9,L_ 12 3 11,K_ 5 aau,s_ 3 5 12] (O_ [m_ 13 3,f_ 14 1 5,l_ 15 14,B_ 16 .add 13 15,m_ 3 16])))
abbrev Ao:Nat:=30
def zA:aq:=(G_ [x_ 1 0,k_ 2 0] (G_ [k_ 3 0] (J_ (G_ [f_ 6 0 1,l_ 7 6,z_ 8 7,k_ 9 0] (Q_ 0 wH)) (G_ [m_ 18 3,m_ 2 18] .ret))))
theorem HT:FF Ao=some ⟨[(.tmp 2)],zA,.no⟩:=by kernel_rfl
def rp:aq:=(N_ 39 38 37 2 3 57 (G_ [m_ 40 38,a_ 41 4 36 38,L_ 42 4 41,K_ 9 TL,m_ 8 40,s_ 4 9 42] (G_ [m_ 43 1,L_ 44 4 9,F_ 45 69 [t_ 44],o_ 46 (.call (t_ 43) [t_ 45]),s_ 4 9 46] (J_ (G_ [L_ 47 4 9,F_ 48 70 [t_ 47]] (I_ 48 (G_ [o_ 49 (.build w8_ []),m_ 50 8,F_ 51 36 [(i_ 10),t_ 50],s_ 2 4 49,s_ 2 5 51] .ret) .skip)) (O_ [f_ 52 1 2,l_ 53 52,m_ 54 8,L_ 55 4 9,a_ 56 4 53 54,s_ 4 56 55])))))
def rq:aq:=(N_ 18 17 16 0 1 30 (G_ [m_ 19 17,a_ 20 3 15 17,L_ 21 3 20,K_ 7 aau,m_ 6 19,s_ 3 7 21] (V_ [f_ 22 0 2,l_ 23 22,m_ 24 6,f_ 25 2 7,l_ 26 25,(F_ 27 67 [t_ 26],[22]),a_ 28 3 23 24,f_ 29 2 28,s_ 1 29 27])))
abbrev Al:Nat:=31
def zx:aq:=(G_ [x_ 2 0,K_ 4 w8_,K_ 5 Jy] (G_ [f_ 10 0 2,l_ 11 10,F_ 12 66 [t_ 11],f_ 13 0 2,s_ 1 13 12] (J_ (G_ [f_ 14 0 2,l_ 15 14,z_ 16 15,k_ 17 0] (Q_ 0 rq)) (G_ [f_ 31 1 2,l_ 32 31,F_ 33 68 [t_ 32],f_ 34 1 2,s_ 1 34 33] (J_ (G_ [f_ 35 1 2,l_ 36 35,z_ 37 36,k_ 38 0] (Q_ 2 rp)) (G_ [L_ 58 2 2,o_ 59 (.build Jy []),s_ 2 4 58,s_ 2 5 59] .ret))))))
theorem HR:FF Al=some ⟨[(.cell 4 (some 2)),(.cell 5 (some 2))],zx,.no⟩:=by kernel_rfl
def qS:aq:=(N_ 108 107 106 5 6 122 (G_ [m_ 109 107,a_ 110 4 105 107,L_ 111 4 110,K_ 13 TL,m_ 12 109,s_ 4 13 111] (G_ [L_ 112 2 1,L_ 113 4 13,o_ 114 (.build aav [(0,(2,(t_ 112))),(2,(4,(t_ 113)))]),K_ 14 aav,s_ 7 14 114] (G_ [L_ 115 7 14,F_ 116 82 [t_ 115],m_ 15 116] (G_ [m_ 117 15,Y_ 118 .neq 117 0] (I_ 118 (G_ [m_ 119 15,m_ 120 12,F_ 121 36 [t_ 119,t_ 120],s_ 2 2 121] .ret) .skip))))))
def qT:aq:=(N_ 83 82 81 3 4 103 (G_ [m_ 84 82,a_ 85 4 80 82,L_ 86 4 85,K_ 9 TL,m_ 8 84,s_ 4 9 86] (G_ [L_ 87 2 1,L_ 88 4 9,o_ 89 (.build aav [(0,(2,(t_ 87))),(2,(4,(t_ 88)))]),K_ 10 aav,s_ 7 10 89] (J_ (G_ [L_ 90 7 10,m_ 91 3,F_ 92 81 [t_ 90,t_ 91],m_ 11 92] (G_ [m_ 93 11,Y_ 94 .neq 93 0] (I_ 94 (G_ [m_ 95 11,m_ 96 8,F_ 97 36 [t_ 95,t_ 96],s_ 2 2 97] .ret) .skip))) (O_ [m_ 98 3,f_ 99 0 9,l_ 100 99,v_ 101 aaw 1 100,A_ 102 aaw 16 98 101,m_ 3 102])))))
def DW:aq:=(P_ 2 (G_ [f_ 37 0 6,l_ 38 37,F_ 39 78 [t_ 38],o_ 40 (.un .not (t_ 39)),m_ 36 40] (I_ 36 (O_ [k_ 7 12]) (G_ [m_ 42 3,f_ 43 0 6,l_ 44 43,F_ 45 79 [t_ 42,t_ 44],m_ 41 45] (I_ 41 (O_ [k_ 7 7]) (G_ [f_ 47 1 6,l_ 48 47,F_ 49 80 [t_ 48,(i_ 1),(i_ 200)],o_ 50 (.un .not (t_ 49)),m_ 46 50] (I_ 46 (O_ [k_ 7 3]) (G_ [f_ 52 2 6,l_ 53 52,z_ 54 53,f_ 55 1 6,l_ 56 55,B_ 57 .gtr 54 56,m_ 51 57] (I_ 51 (O_ [k_ 7 9]) (G_ [m_ 59 4,f_ 60 1 6,l_ 61 60,B_ 62 .add 59 61,C_ 63 .gtr 62 200,m_ 58 63] (I_ 58 (O_ [k_ 7 10]) .skip)))))))))))
def US:aq:=(J_ (G_ [m_ 64 7,Y_ 65 .neq 64 0] (I_ 65 (G_ [m_ 66 7,m_ 67 5,F_ 68 36 [t_ 66,t_ 67],s_ 2 2 68] .ret) .skip)) (G_ [m_ 69 3,f_ 70 0 6,l_ 71 70,v_ 72 aaw 1 71,A_ 73 aaw 16 69 72,m_ 3 73] (O_ [m_ 74 4,f_ 75 1 6,l_ 76 75,B_ 77 .add 74 76,m_ 4 77])))
def qU:aq:=(N_ 32 31 30 0 1 78 (G_ [m_ 33 31,a_ 34 3 29 31,L_ 35 3 34,K_ 6 aau,m_ 5 33,s_ 3 6 35] (G_ [k_ 7 0] (J_ DW US))))
abbrev Af:Nat:=34
def zq:aq:=(G_ [x_ 1 0,K_ 2 Jy] (J_ (G_ [f_ 17 0 1,l_ 18 17,z_ 19 18,C_ 20 .gtr 19 10,m_ 21 20,q_ 22 21 false (.cP 1 (t_ 1)),q_ 23 21 false (.load none (t_ 22)),q_ 24 21 false (.uC (t_ 23)),q_ 25 21 false (.bin .gtr [] (t_ 24) (i_ 10)),o_ 26 (.pick (t_ 21) (b_ true) (t_ 25))] (I_ 26 (G_ [F_ 27 36 [(i_ 2),(i_ 0)],s_ 2 2 27] .ret) .skip)) (G_ [Z_ 3] (G_ [k_ 4 0] (J_ (G_ [f_ 28 0 1,l_ 29 28,z_ 30 29,k_ 31 0] (Q_ 0 qU)) (J_ (G_ [f_ 79 1 1,l_ 80 79,z_ 81 80,k_ 82 0] (Q_ 3 qT)) (J_ (G_ [f_ 104 1 1,l_ 105 104,z_ 106 105,k_ 107 0] (Q_ 5 qS)) (G_ [f_ 123 1 1,l_ 124 123,F_ 125 83 [t_ 124,(.func 84)],m_ 16 125] (J_ (G_ [m_ 126 16,C_ 127 .lss 126 0] (I_ 127 (G_ [F_ 128 36 [(i_ 6),(i_ 0)],s_ 2 2 128] .ret) .skip)) (J_ (G_ [f_ 129 1 1,l_ 130 129,m_ 131 16,a_ 132 4 130 131,f_ 133 1 132,l_ 134 133,C_ 135 .gtr 134 0] (I_ 135 (G_ [m_ 136 16,F_ 137 36 [(i_ 5),t_ 136],s_ 2 2 137] .ret) .skip)) (G_ [o_ 138 (.build Jy []),s_ 2 2 138] .ret)))))))))))
theorem HK:FF Af=some ⟨[(.cell 2 (some 2))],zq,.no⟩:=by kernel_rfl
abbrev yh:Nat:=35
def xS:aq:=(G_ [x_ 1 0,k_ 2 0] (J_ (V_ [L_ 4 4 1,L_ 5 4 1,o_ 7 (.build Jy [(0,(1,(.const (.int .i64 (Int.negSucc 0))))),(1,(1,(.const (.int .i64 (Int.negSucc 0)))))]),v_ 8 Jy 2 7,f_ 9 2 1,l_ 10 9,(F_ 6 85 [t_ 5],[8,9]),(F_ 11 86 [t_ 8,t_ 10],[1]),(⟨(some 12),none,(.build [(.string ⟨⟨[]⟩⟩),(.int .i64 0),(.int .i64 0),(.slice none 0 0),(.slice none 0 0),(.slice none 0 0)] [(0,(4,(t_ 4))),(4,(1,(t_ 6))),(5,(1,(t_ 11)))])⟩,[]),x_ 13 12,m_ 3 13]) (J_ (P_ 0 (J_ (V_ [L_ 15 4 1,f_ 18 3 1,l_ 19 18,z_ 20 19,(F_ 16 87 [t_ 15],[18]),z_ 17 16,B_ 21 .lss 17 20,m_ 14 21]) (I_ 14 (G_ [k_ 2 5] .ret) (G_ [m_ 23 3,F_ 24 88 [t_ 23],o_ 25 (.un .not (t_ 24)),m_ 22 25] (I_ 22 (G_ [k_ 2 7] .ret) (G_ [m_ 27 3,F_ 28 89 [t_ 27],o_ 29 (.un .not (t_ 28)),m_ 26 29] (I_ 26 (G_ [k_ 2 6] .ret) .skip))))))) (G_ [k_ 2 0] .ret))))
theorem FD:FF yh=some ⟨[(.tmp 2)],xS,.no⟩:=by kernel_rfl
abbrev Ai:Nat:=36
def zu:aq:=(G_ [K_ 4 Jy] (G_ [m_ 5 0,m_ 6 1,o_ 7 (.build Jy [(0,(1,(t_ 5))),(1,(1,(t_ 6)))]),s_ 2 4 7] .ret))
theorem HN:FF Ai=some ⟨[(.cell 4 (some 2))],zu,.no⟩:=by kernel_rfl
set_option maxRecDepth 100000
abbrev uP:Nat:=52
def zD:aq:=(G_ [x_ 2 0,K_ 3 TL] (G_ [l_ 4 1,L_ 5 4 2,F_ 6 53 [t_ 4,t_ 5],s_ 4 3 6] .ret))
theorem HV:FF uP=some ⟨[(.cell 3 (some 4))],zD,.no⟩:=by kernel_rfl
def wI:aq:=(J_ (G_ [m_ 5 0,F_ 6 107 [t_ 5,t_ 3]] (H_ 6 0)) (P_ 1 .skip))
abbrev Ap:Nat:=53
def zC:aq:=(G_ [x_ 3 1,K_ 4 TL] (J_ (Q_ 0 wI) (G_ [L_ 7 4 3,F_ 8 77 [t_ 7],s_ 4 4 8] .ret)))
theorem HU:FF Ap=some ⟨[(.cell 4 (some 4))],zC,.no⟩:=by kernel_rfl
abbrev j6:Nat:=66
def jW:aq:=(G_ [Z_ 2] (J_ (G_ [m_ 3 0,o_ 4 (.bin .eql [3] (t_ 3) (.const (.slice none 0 0)))] (I_ 4 (G_ [Z_ 2] .ret) .skip)) (G_ [o_ 5 (.fH 0 [] []),m_ 6 0,A_ 7 aau 48 5 6,m_ 2 7] .ret)))
theorem jX:FF j6=some ⟨[(.tmp 2)],jW,.no⟩:=by kernel_rfl
abbrev uO:Nat:=67
def uz:aq:=(G_ [Z_ 2] (J_ (G_ [m_ 3 0,o_ 4 (.bin .eql [3] (t_ 3) (.const (.slice none 0 0)))] (I_ 4 (G_ [Z_ 2] .ret) .skip)) (G_ [o_ 5 (.fH 0 [] []),m_ 6 0,A_ 7 HA 8 5 6,m_ 2 7] .ret)))
theorem lS:FF uO=some ⟨[(.tmp 2)],uz,.no⟩:=by kernel_rfl
abbrev ml:Nat:=68
def lM:aq:=(G_ [Z_ 2] (J_ (G_ [m_ 3 0,o_ 4 (.bin .eql [3] (t_ 3) (.const (.slice none 0 0)))] (I_ 4 (G_ [Z_ 2] .ret) .skip)) (G_ [o_ 5 (.fH 0 [] []),m_ 6 0,A_ 7 TL 56 5 6,m_ 2 7] .ret)))
theorem lQ:FF ml=some ⟨[(.tmp 2)],lM,.no⟩:=by kernel_rfl
def re:aq:=(N_ 50 49 48 4 5 62 (G_ [m_ 51 49,a_ 52 8 47 49,L_ 53 8 52,K_ 8 XM,m_ 7 51,s_ 8 8 53] (V_ [f_ 54 1 4,l_ 55 54,m_ 56 7,f_ 57 7 8,l_ 58 57,(F_ 59 128 [t_ 58],[54]),a_ 60 8 55 56,f_ 61 7 60,s_ 1 61 59])))
def rh:aq:=(N_ 29 28 27 2 3 41 (G_ [m_ 30 28,a_ 31 2 26 28,L_ 32 2 31,K_ 6 Td,m_ 5 30,s_ 2 6 32] (V_ [f_ 33 0 4,l_ 34 33,m_ 35 5,f_ 36 1 6,l_ 37 36,(F_ 38 128 [t_ 37],[33]),a_ 39 2 34 35,f_ 40 1 39,s_ 1 40 38])))
def rm:aq:=(N_ 17 16 15 0 1 74 (G_ [m_ 18 16,a_ 19 6 14 16,L_ 20 6 19,K_ 4 JJ,m_ 3 18,s_ 6 4 20] (G_ [f_ 21 0 4,l_ 22 21,F_ 23 127 [t_ 22],f_ 24 0 4,s_ 1 24 23] (J_ (G_ [f_ 25 0 4,l_ 26 25,z_ 27 26,k_ 28 0] (Q_ 2 rh)) (G_ [f_ 42 1 4,l_ 43 42,F_ 44 129 [t_ 43],f_ 45 1 4,s_ 1 45 44] (J_ (G_ [f_ 46 1 4,l_ 47 46,z_ 48 47,k_ 49 0] (Q_ 4 re)) (G_ [f_ 63 2 4,f_ 64 3 63,l_ 65 64,F_ 66 67 [t_ 65],f_ 67 2 4,f_ 68 3 67,s_ 1 68 66] (O_ [f_ 69 3 1,l_ 70 69,m_ 71 3,L_ 72 6 4,a_ 73 6 70 71,s_ 6 73 72]))))))))
abbrev Ak:Nat:=69
def zw:aq:=(G_ [x_ 1 0,K_ 2 TL] (G_ [f_ 9 3 1,l_ 10 9,F_ 11 126 [t_ 10],f_ 12 3 1,s_ 1 12 11] (J_ (G_ [f_ 13 3 1,l_ 14 13,z_ 15 14,k_ 16 0] (Q_ 0 rm)) (G_ [L_ 75 4 1,s_ 4 2 75] .ret))))
theorem HP:FF Ak=some ⟨[(.cell 2 (some 4))],zw,.no⟩:=by kernel_rfl
def vo:aq:=(N_ 10 9 8 0 1 22 (G_ [a_ 11 6 7 9,L_ 12 6 11,K_ 5 JJ,s_ 6 5 12] (O_ [m_ 13 3,f_ 14 0 5,l_ 15 14,z_ 16 15,f_ 17 1 5,l_ 18 17,z_ 19 18,B_ 20 .add 16 19,B_ 21 .add 13 20,m_ 3 21])))
abbrev yg:Nat:=70
def xR:aq:=(G_ [x_ 1 0,M_ 2 false] (G_ [k_ 3 0] (J_ (G_ [f_ 6 3 1,l_ 7 6,z_ 8 7,k_ 9 0] (Q_ 0 vo)) (G_ [f_ 23 3 1,l_ 24 23,z_ 25 24,C_ 26 .gtr 25 40,m_ 27 26,q_ 28 27 false (.mv (t_ 3)),q_ 29 27 false (.bin .gtr [] (t_ 28) (i_ 300)),o_ 30 (.pick (t_ 27) (b_ true) (t_ 29)),m_ 31 30,q_ 32 31 false (.cP 2 (t_ 1)),q_ 33 31 false (.load none (t_ 32)),q_ 34 31 false (.bin .gtr [] (t_ 33) (i_ 100)),o_ 35 (.pick (t_ 31) (b_ true) (t_ 34)),m_ 2 35] .ret))))
theorem FC:FF yg=some ⟨[(.tmp 2)],xR,.no⟩:=by kernel_rfl
abbrev wy:Nat:=76
def vK:aq:=(G_ [x_ 3 1,M_ 4 false] (J_ (P_ 0 (G_ [f_ 6 0 3,l_ 7 6,Y_ 8 .eql 7 5,m_ 9 8,q_ 10 9 false (.cP 0 (t_ 3)),q_ 11 9 false (.load none (t_ 10)),q_ 12 9 false (.bin .eql [1] (t_ 11) (i_ 6)),o_ 13 (.pick (t_ 9) (b_ true) (t_ 12)),m_ 5 13] (I_ 5 (G_ [f_ 14 4 3,f_ 15 0 14,l_ 16 15,o_ 17 (.un .not (t_ 16)),m_ 18 17,q_ 19 18 true (.cP 4 (t_ 3)),q_ 20 18 true (.cP 1 (t_ 19)),q_ 21 18 true (.load none (t_ 20)),q_ 22 18 true (.bin .neq [1] (t_ 21) (i_ 0)),o_ 23 (.pick (t_ 18) (t_ 22) (b_ false)),m_ 4 23] .ret) (G_ [f_ 25 0 3,l_ 26 25,Y_ 27 .eql 26 18,m_ 24 27] (I_ 24 (G_ [f_ 28 2 3,f_ 29 0 28,l_ 30 29,o_ 31 (.un .not (t_ 30)),m_ 32 31,q_ 33 32 true (.cP 2 (t_ 3)),q_ 34 32 true (.cP 1 (t_ 33)),q_ 35 32 true (.load none (t_ 34)),q_ 36 32 true (.mv (t_ 0)),q_ 37 32 true (.bin .sub [] (t_ 36) (i_ 1)),q_ 38 32 true (.call (.func 80) [t_ 35,(i_ 0),t_ 37]),o_ 39 (.pick (t_ 32) (t_ 38) (b_ false)),m_ 4 39] .ret) .skip))))) (G_ [f_ 40 0 3,l_ 41 40,F_ 42 80 [t_ 41,(i_ 1),(i_ 17)],m_ 4 42] .ret)))
theorem DD:FF wy=some ⟨[(.tmp 4)],vK,.no⟩:=by kernel_rfl
abbrev Ck:Nat:=77
def BL:aq:=(G_ [x_ 1 0,K_ 2 TL] (J_ (V_ [L_ 3 4 1,L_ 4 4 1,(F_ 5 138 [t_ 4],[1]),F_ 6 137 [t_ 3,t_ 5],F_ 7 136 [t_ 6],F_ 8 135 [t_ 7],s_ 4 2 8]) .ret))
theorem J0:FF Ck=some ⟨[(.cell 2 (some 4))],BL,.no⟩:=by kernel_rfl
def yl:aq:=(N_ 16 15 14 0 1 52 (G_ [m_ 17 15,m_ 3 17] (G_ [m_ 18 0,m_ 19 3,o_ 20 (.index none (t_ 18) (t_ 19)),m_ 4 20] (G_ [m_ 21 4,o_ 22 (.bin .geq [] (t_ 21) (.const (.int .u8 97))),m_ 23 22,q_ 24 23 true (.mv (t_ 4)),q_ 25 23 true (.bin .leq [] (t_ 24) (.const (.int .u8 122))),o_ 26 (.pick (t_ 23) (t_ 25) (b_ false)),m_ 27 26,q_ 28 27 false (.mv (t_ 4)),q_ 29 27 false (.bin .geq [] (t_ 28) (.const (.int .u8 65))),q_ 30 27 false (.mv (t_ 29)),q_ 31 30 true (.mv (t_ 4)),q_ 32 30 true (.bin .leq [] (t_ 31) (.const (.int .u8 90))),q_ 33 27 false (.pick (t_ 30) (t_ 32) (b_ false)),o_ 34 (.pick (t_ 27) (b_ true) (t_ 33)),m_ 35 34,q_ 36 35 false (.mv (t_ 4)),q_ 37 35 false (.bin .eql [1] (t_ 36) (.const (.int .u8 95))),o_ 38 (.pick (t_ 35) (b_ true) (t_ 37)),m_ 39 38,q_ 40 39 false (.mv (t_ 3)),q_ 41 39 false (.bin .gtr [] (t_ 40) (i_ 0)),q_ 42 39 false (.mv (t_ 41)),q_ 43 42 true (.mv (t_ 4)),q_ 44 42 true (.bin .geq [] (t_ 43) (.const (.int .u8 48))),q_ 45 39 false (.pick (t_ 42) (t_ 44) (b_ false)),q_ 46 39 false (.mv (t_ 45)),q_ 47 46 true (.mv (t_ 4)),q_ 48 46 true (.bin .leq [] (t_ 47) (.const (.int .u8 57))),q_ 49 39 false (.pick (t_ 46) (t_ 48) (b_ false)),o_ 50 (.pick (t_ 39) (b_ true) (t_ 49)),o_ 51 (.un .not (t_ 50))] (I_ 51 (G_ [M_ 2 false] .ret) .skip)))))
abbrev Cg:Nat:=78
def BH:aq:=(G_ [M_ 2 false] (J_ (G_ [m_ 5 0,o_ 6 (.Jt (t_ 5)),C_ 7 .lss 6 1,m_ 8 7,q_ 9 8 false (.mv (t_ 0)),q_ 10 8 false (.Jt (t_ 9)),q_ 11 8 false (.bin .gtr [] (t_ 10) (i_ 12)),o_ 12 (.pick (t_ 8) (b_ true) (t_ 11))] (I_ 12 (G_ [M_ 2 false] .ret) .skip)) (J_ (G_ [m_ 13 0,o_ 14 (.Jt (t_ 13)),k_ 15 0] (Q_ 0 yl)) (G_ [M_ 2 true] .ret))))
theorem JW:FF Cg=some ⟨[(.tmp 2)],BH,.no⟩:=by kernel_rfl
abbrev gz:Nat:=79
def gu:aq:=(G_ [M_ 4 false] (G_ [m_ 5 0,m_ 6 1,F_ 7 139 [t_ 5,t_ 6],C_ 8 .geq 7 0,m_ 4 8] .ret))
theorem mA:FF gz=some ⟨[(.tmp 4)],gu,.no⟩:=by kernel_rfl
abbrev ye:Nat:=80
def xP:aq:=(G_ [M_ 6 false] (G_ [m_ 7 0,m_ 8 1,B_ 9 .geq 7 8,m_ 10 9,q_ 11 10 true (.mv (t_ 0)),q_ 12 10 true (.mv (t_ 2)),q_ 13 10 true (.bin .leq [] (t_ 11) (t_ 12)),o_ 14 (.pick (t_ 10) (t_ 13) (b_ false)),m_ 6 14] .ret))
theorem FA:FF ye=some ⟨[(.tmp 6)],xP,.no⟩:=by kernel_rfl
def mL:aq:=(N_ 13 12 11 0 1 25 (G_ [a_ 14 6 10 12,L_ 15 6 14,K_ 7 JJ,s_ 6 7 15] (O_ [m_ 16 5,f_ 17 0 7,l_ 18 17,z_ 19 18,f_ 20 1 7,l_ 21 20,z_ 22 21,B_ 23 .add 19 22,B_ 24 .add 16 23,m_ 5 24])))
abbrev pG:Nat:=81
def px:aq:=(G_ [x_ 2 0,k_ 4 0] (G_ [k_ 5 0] (J_ (G_ [f_ 8 2 2,f_ 9 3 8,l_ 10 9,z_ 11 10,k_ 12 0] (Q_ 0 mL)) (J_ (P_ 2 (G_ [f_ 27 2 2,f_ 28 0 27,l_ 29 28,F_ 30 78 [t_ 29],o_ 31 (.un .not (t_ 30)),m_ 26 31] (I_ 26 (G_ [k_ 4 12] .ret) (G_ [m_ 33 1,f_ 34 2 2,f_ 35 0 34,l_ 36 35,F_ 37 79 [t_ 33,t_ 36],m_ 32 37] (I_ 32 (G_ [k_ 4 7] .ret) (G_ [f_ 39 2 2,f_ 40 1 39,l_ 41 40,F_ 42 80 [t_ 41,(i_ 0),(i_ 6)],o_ 43 (.un .not (t_ 42)),m_ 44 43,q_ 45 44 false (.cP 2 (t_ 2)),q_ 46 44 false (.cP 2 (t_ 45)),q_ 47 44 false (.load none (t_ 46)),q_ 48 44 false (.cP 2 (t_ 2)),q_ 49 44 false (.cP 1 (t_ 48)),q_ 50 44 false (.load none (t_ 49)),q_ 51 44 false (.call (.func 80) [t_ 47,t_ 50,(i_ 100)]),q_ 52 44 false (.un .not (t_ 51)),o_ 53 (.pick (t_ 44) (b_ true) (t_ 52)),m_ 38 53] (I_ 38 (G_ [k_ 4 3] .ret) (G_ [f_ 55 2 2,f_ 56 3 55,l_ 57 56,z_ 58 57,F_ 59 80 [t_ 58,(i_ 1),(i_ 40)],o_ 60 (.un .not (t_ 59)),m_ 61 60,q_ 62 61 false (.mv (t_ 5)),q_ 63 61 false (.bin .gtr [] (t_ 62) (i_ 300)),o_ 64 (.pick (t_ 61) (b_ true) (t_ 63)),m_ 54 64] (I_ 54 (G_ [k_ 4 2] .ret) .skip))))))))) (G_ [k_ 4 0] .ret)))))
theorem xx:FF pG=some ⟨[(.tmp 4)],px,.no⟩:=by kernel_rfl
def iO:aq:=(N_ 62 61 60 6 7 71 (G_ [a_ 63 8 59 61,L_ 64 8 63,K_ 12 XM,s_ 8 12 64] (G_ [L_ 65 7 1,L_ 66 8 12,F_ 67 143 [t_ 65,t_ 66],m_ 13 67] (G_ [m_ 68 13,Y_ 69 .neq 68 0] (I_ 69 (G_ [m_ 70 13,m_ 2 70] .ret) .skip)))))
def iP:aq:=(N_ 47 46 45 4 5 57 (G_ [a_ 48 2 44 46,L_ 49 2 48,K_ 9 Td,s_ 2 9 49] (G_ [L_ 50 7 1,m_ 51 6,L_ 52 2 9,F_ 53 142 [t_ 50,t_ 51,t_ 52],m_ 10 53] (G_ [m_ 54 10,Y_ 55 .neq 54 0] (I_ 55 (G_ [m_ 56 10,m_ 2 56] .ret) .skip)))))
def iQ:aq:=(N_ 39 38 37 2 3 72 (G_ [m_ 40 38,a_ 41 6 36 38,L_ 42 6 41,K_ 7 JJ,m_ 6 40,s_ 6 7 42] (J_ (G_ [f_ 43 0 7,l_ 44 43,z_ 45 44,k_ 46 0] (Q_ 4 iP)) (G_ [f_ 58 1 7,l_ 59 58,z_ 60 59,k_ 61 0] (Q_ 6 iO)))))
def iS:aq:=(N_ 19 18 17 0 1 29 (G_ [a_ 20 6 16 18,L_ 21 6 20,K_ 4 JJ,s_ 6 4 21] (G_ [L_ 22 7 1,f_ 23 2 4,L_ 24 4 23,F_ 25 140 [t_ 22,t_ 24],m_ 5 25] (G_ [m_ 26 5,Y_ 27 .neq 26 0] (I_ 27 (G_ [m_ 28 5,m_ 2 28] .ret) .skip)))))
abbrev pF:Nat:=82
def pw:aq:=(G_ [x_ 1 0,k_ 2 0] (J_ (G_ [f_ 14 2 1,f_ 15 3 14,l_ 16 15,z_ 17 16,k_ 18 0] (Q_ 0 iS)) (G_ [f_ 30 2 1,L_ 31 4 30,F_ 32 141 [t_ 31],f_ 33 6 1,s_ 1 33 32] (J_ (G_ [f_ 34 2 1,f_ 35 3 34,l_ 36 35,z_ 37 36,k_ 38 0] (Q_ 2 iQ)) (G_ [k_ 2 0] .ret)))))
theorem xv:FF pF=some ⟨[(.tmp 2)],pw,.no⟩:=by kernel_rfl
def eC:aq:=(N_ 9 8 7 0 1 18 (G_ [m_ 10 8,m_ 5 10] (G_ [m_ 11 1,m_ 12 0,m_ 13 5,a_ 14 4 12 13,L_ 15 4 14,o_ 16 (.call (t_ 11) [t_ 15])] (I_ 16 (G_ [m_ 17 5,m_ 4 17] .ret) .skip))))
abbrev eV:Nat:=83
def eT:aq:=(.seq (.ops [⟨(some 4),none,(.mv (.const (.int .i64 0)))⟩]) (.seq (.seq (.ops [⟨(some 6),none,(.mv (.tmp 0))⟩,⟨(some 7),none,(.uC (.tmp 6))⟩,⟨(some 8),none,(.mv (.const (.int .i64 0)))⟩]) (.block 0 (.loop eC))) (.seq (.ops [⟨(some 4),none,(.mv (.const (.int .i64 (Int.negSucc 0))))⟩]) .ret)))
theorem jY:FF eV=some ⟨[(.tmp 4)],eT,.no⟩:=by kernel_rfl
abbrev jr:Nat:=84
def vI:aq:=(G_ [x_ 1 0,M_ 2 false] (G_ [f_ 3 0 1,l_ 4 3,⟨(some 5),none,(.bin .eql [2] (t_ 4) (.const (.string ⟨⟨[109,97,105,110]⟩⟩)))⟩,m_ 2 5] .ret))
theorem DB:FF jr=some ⟨[(.tmp 2)],vI,.no⟩:=by kernel_rfl
def qW:aq:=(N_ 56 55 54 6 7 74 (G_ [a_ 57 1 53 55,l_ 58 57,m_ 14 58] (P_ 8 (G_ [m_ 65 5,m_ 66 14,a_ 67 1 65 66,l_ 68 67,C_ 69 .lss 68 0,m_ 64 69] (I_ 64 .skip (G_ [m_ 71 12,C_ 72 .lss 71 0,m_ 70 72] (I_ 70 (O_ [m_ 73 14,m_ 12 73]) (O_ [m_ 59 5,m_ 60 4,m_ 61 12,m_ 62 14,F_ 63 145 [t_ 59,t_ 60,t_ 61,t_ 62],m_ 12 63]))))))))
def jz:aq:=(N_ 47 46 45 4 5 85 (G_ [a_ 48 1 44 46,l_ 49 48,m_ 11 49] (G_ [k_ 12 (Int.negSucc 0)] (J_ (G_ [m_ 50 8,m_ 51 11,a_ 52 1 50 51,l_ 53 52,z_ 54 53,k_ 55 0] (Q_ 6 qW)) (G_ [m_ 75 5,m_ 76 11,a_ 77 1 75 76,l_ 78 77,m_ 79 12,X_ 80 .neq 78 79] (I_ 80 (O_ [m_ 81 5,m_ 82 11,m_ 83 12,a_ 84 1 81 82,s_ 1 84 83,M_ 9 true]) .skip))))))
def qY:aq:=(J_ (G_ [m_ 42 9] (H_ 42 2)) (P_ 3 (G_ [M_ 9 false] (G_ [m_ 43 3,o_ 44 (.slice 1 (t_ 43) (some (i_ 1)) none none),z_ 45 44,k_ 46 0] (Q_ 4 jz)))))
def qZ:aq:=(N_ 29 28 27 0 1 37 (G_ [m_ 30 28,a_ 31 1 26 28,l_ 32 31,m_ 6 30,m_ 7 32] (O_ [m_ 33 4,m_ 34 7,m_ 35 6,a_ 36 1 33 34,s_ 1 36 35])))
abbrev Aj:Nat:=85
def zv:aq:=(G_ [x_ 1 0,Z_ 2] (G_ [L_ 15 4 1,F_ 16 138 [t_ 15],m_ 3 16] (G_ [f_ 17 3 1,l_ 18 17,z_ 19 18,o_ 20 (.ik HA 8 (t_ 19) (t_ 19)),m_ 4 20] (G_ [o_ 21 (.fH 1 HA [(0,(1,(.const (.int .i64 (Int.negSucc 0)))))]),f_ 22 3 1,l_ 23 22,z_ 24 23,F_ 25 144 [t_ 21,t_ 24],m_ 5 25] (J_ (G_ [m_ 26 3,z_ 27 26,k_ 28 0] (Q_ 0 qZ)) (G_ [m_ 38 5,o_ 39 (.dt none 1 (t_ 38) (i_ 0)),u_ (.store 1 (t_ 39) (i_ 0))] (G_ [L_ 40 4 1,F_ 41 101 [t_ 40],m_ 8 41] (J_ (G_ [M_ 9 true] (Q_ 2 qY)) (G_ [m_ 86 5,o_ 87 (.dt none 1 (t_ 86) (i_ 0)),u_ (.store 1 (t_ 87) (.const (.int .i64 (Int.negSucc 0))))] (G_ [m_ 88 5,m_ 2 88] .ret))))))))))
theorem HO:FF Aj=some ⟨[(.tmp 2)],zv,.no⟩:=by kernel_rfl
def iG:aq:=(J_ (G_ [m_ 34 8,m_ 35 7,z_ 36 35,B_ 37 .lss 34 36] (H_ 37 0)) (P_ 1 (V_ [m_ 38 8,m_ 39 7,m_ 40 8,o_ 41 (.slice 2 (t_ 39) (some (t_ 40)) none none),m_ 42 7,m_ 43 8,o_ 44 (.slice 2 (t_ 42) none (some (t_ 43)) none),o_ 45 (.copy 2 (t_ 41) (t_ 44)),B_ 46 .add 38 45,m_ 8 46])))
abbrev cN:Nat:=86
def iY:aq:=(G_ [Z_ 4] (J_ (G_ [m_ 9 1,C_ 10 .lss 9 0] (I_ 10 (O_ [⟨(some 11),none,.bad⟩,⟨none,none,.bad⟩]) .skip)) (G_ [m_ 13 0,z_ 14 13,o_ 15 (.conv .u64 (t_ 14)),m_ 16 1,o_ 17 (.conv .u64 (t_ 16)),F_ 18 146 [t_ 15,t_ 17],m_ 12 18,E_ 19 0 12,E_ 20 1 12,m_ 5 19,m_ 6 20] (J_ (G_ [m_ 21 5,o_ 22 (.bin .gtr [] (t_ 21) (.const (.int .u64 0))),m_ 23 22,q_ 24 23 false (.mv (t_ 6)),q_ 25 23 false (.bin .gtr [] (t_ 24) (.const (.int .u64 9223372036854775807))),o_ 26 (.pick (t_ 23) (b_ true) (t_ 25))] (I_ 26 (O_ [⟨(some 27),none,.bad⟩,⟨none,none,.bad⟩]) .skip)) (G_ [m_ 28 6,o_ 29 (.conv .i64 (t_ 28)),o_ 30 (.ik Jy 16 (t_ 29) (t_ 29)),m_ 7 30] (G_ [m_ 31 7,m_ 32 0,o_ 33 (.copy 2 (t_ 31) (t_ 32)),m_ 8 33] (J_ (Q_ 0 iG) (G_ [m_ 47 7,m_ 4 47] .ret))))))))
theorem ed:FF cN=some ⟨[(.tmp 4)],iY,.no⟩:=by kernel_rfl
abbrev Am:Nat:=87
def zy:aq:=(G_ [x_ 1 0,Z_ 2] (G_ [K_ 3 w9_] (G_ [f_ 6 3 1,l_ 7 6,z_ 8 7,o_ 9 (.ik [(.bool false)] 1 (t_ 8) (t_ 8)),K_ 4 w9_,s_ 1 4 9] (G_ [o_ 5 (.alloc [.nilFunc])] (G_ [o_ 10 (.uM 147 [t_ 4,t_ 1,t_ 5,t_ 3]),s_ 1 5 10] (G_ [l_ 11 5,o_ 12 (.call (t_ 11) [(i_ 0)])] (G_ [l_ 13 3,m_ 2 13] .ret)))))))
theorem HS:FF Am=some ⟨[(.tmp 2)],zy,.no⟩:=by kernel_rfl
def ir:aq:=(N_ 57 56 55 6 7 75 (G_ [m_ 58 56,a_ 59 8 54 56,L_ 60 8 59,K_ 10 XM,m_ 9 58,s_ 8 10 60] (O_ [f_ 61 1 10,l_ 62 61,C_ 63 .lss 62 0,m_ 64 63,q_ 65 64 false (.mv (t_ 0)),q_ 66 64 false (.cP 1 (t_ 10)),q_ 67 64 false (.load none (t_ 66)),q_ 68 64 false (.mv (t_ 5)),q_ 69 64 false (.mv (t_ 9)),q_ 70 64 false (.call (.func 149) [t_ 65,t_ 67,t_ 68,t_ 69]),o_ 71 (.pick (t_ 64) (b_ true) (t_ 70)),m_ 72 71,q_ 73 72 true (.mv (t_ 3)),o_ 74 (.pick (t_ 72) (t_ 73) (b_ false)),m_ 3 74])))
def iu:aq:=(N_ 41 40 39 4 5 52 (G_ [a_ 42 2 38 40,L_ 43 2 42,K_ 8 Td,s_ 2 8 43] (O_ [m_ 44 0,f_ 45 0 8,l_ 46 45,m_ 47 5,F_ 48 149 [t_ 44,t_ 46,t_ 47,(.const (.int .i64 (Int.negSucc 0)))],m_ 49 48,q_ 50 49 true (.mv (t_ 3)),o_ 51 (.pick (t_ 49) (t_ 50) (b_ false)),m_ 3 51])))
def mq:aq:=(N_ 33 32 31 2 3 76 (G_ [m_ 34 32,a_ 35 6 30 32,L_ 36 6 35,K_ 6 JJ,m_ 5 34,s_ 6 6 36] (J_ (G_ [f_ 37 0 6,l_ 38 37,z_ 39 38,k_ 40 0] (Q_ 4 iu)) (G_ [f_ 53 1 6,l_ 54 53,z_ 55 54,k_ 56 0] (Q_ 6 ir)))))
def iv:aq:=(N_ 17 16 15 0 1 25 (G_ [m_ 18 16,m_ 4 18] (O_ [m_ 19 0,m_ 20 4,F_ 21 149 [t_ 19,t_ 20,(i_ 0),(.const (.int .i64 (Int.negSucc 0)))],m_ 22 21,q_ 23 22 true (.mv (t_ 3)),o_ 24 (.pick (t_ 22) (t_ 23) (b_ false)),m_ 3 24])))
abbrev ox:Nat:=88
def nZ:aq:=(G_ [M_ 2 false] (G_ [M_ 3 true] (J_ (G_ [m_ 11 0,n_ 12 11,f_ 13 0 12,f_ 14 1 13,l_ 15 14,k_ 16 0] (Q_ 0 iv)) (J_ (G_ [m_ 26 0,n_ 27 26,f_ 28 0 27,f_ 29 3 28,l_ 30 29,z_ 31 30,k_ 32 0] (Q_ 2 mq)) (G_ [m_ 77 3,m_ 2 77] .ret)))))
theorem vS:FF ox=some ⟨[(.tmp 2)],nZ,.no⟩:=by kernel_rfl
def jA:aq:=(N_ 73 72 71 6 7 86 (G_ [m_ 74 72,a_ 75 8 70 72,L_ 76 8 75,K_ 11 HA,K_ 12 XM,s_ 1 11 74,s_ 8 12 76] (G_ [L_ 77 8 12,F_ 78 132 [t_ 77]] (P_ 8 (.Qr (t_ 78) [79] (O_ [K_ 13 vx,s_ 2 13 79]) (P_ 9 (G_ [l_ 80 1,L_ 81 2 13,l_ 82 4,l_ 83 11,F_ 84 150 [t_ 80,t_ 81,t_ 82,t_ 83],o_ 85 (.un .not (t_ 84))] (I_ 85 (G_ [u_ (.store 1 (t_ 2) (b_ false))] .ret) .skip))))))))
def jB:aq:=(N_ 41 40 39 4 5 67 (G_ [m_ 42 40,a_ 43 2 38 40,L_ 44 2 43,K_ 9 vx,m_ 8 42,s_ 2 9 44] (G_ [m_ 45 3,l_ 46 4,a_ 47 1 45 46,l_ 48 47,m_ 49 8,a_ 50 1 48 49,l_ 51 50,m_ 10 51] (J_ (V_ [l_ 52 1,L_ 53 2 9,m_ 54 10,l_ 55 1,n_ 56 55,f_ 57 0 56,f_ 58 3 57,l_ 59 58,m_ 60 10,a_ 61 6 59 60,f_ 62 1 61,l_ 63 62,z_ 64 63,F_ 65 150 [t_ 52,t_ 53,t_ 54,t_ 64],o_ 66 (.un .not (t_ 65))]) (I_ 66 (G_ [u_ (.store 1 (t_ 2) (b_ false))] .ret) .skip)))))
def jC:aq:=(N_ 34 33 32 2 3 68 (G_ [a_ 35 2 31 33,L_ 36 2 35,K_ 7 Td,s_ 2 7 36] (G_ [f_ 37 1 7,l_ 38 37,z_ 39 38,k_ 40 0] (Q_ 4 jB))))
def oJ:aq:=(N_ 26 25 24 0 1 97 (G_ [m_ 27 25,a_ 28 6 23 25,L_ 29 6 28,K_ 4 HA,K_ 5 JJ,s_ 1 4 27,s_ 6 5 29] (J_ (G_ [f_ 30 0 5,l_ 31 30,z_ 32 31,k_ 33 0] (Q_ 2 jC)) (J_ (G_ [f_ 69 1 5,l_ 70 69,z_ 71 70,k_ 72 0] (Q_ 6 jA)) (G_ [l_ 87 1,f_ 88 2 5,f_ 89 1 88,L_ 90 2 89,l_ 91 4,f_ 92 1 5,l_ 93 92,z_ 94 93,F_ 95 150 [t_ 87,t_ 90,t_ 91,t_ 94],o_ 96 (.un .not (t_ 95))] (I_ 96 (G_ [u_ (.store 1 (t_ 2) (b_ false))] .ret) .skip))))))
abbrev qJ:Nat:=89
def qm:aq:=(G_ [x_ 1 0,o_ 2 (.alloc [(.bool false)])] (G_ [l_ 14 1,n_ 15 14,f_ 16 0 15,L_ 17 4 16,F_ 18 101 [t_ 17],m_ 3 18] (J_ (G_ [l_ 19 1,n_ 20 19,f_ 21 0 20,f_ 22 3 21,l_ 23 22,z_ 24 23,k_ 25 0] (Q_ 0 oJ)) (G_ [u_ (.store 1 (t_ 2) (b_ true))] .ret))))
theorem yE:FF qJ=some ⟨[(.cell 2 none)],qm,.no⟩:=by kernel_rfl
set_option maxRecDepth 100000
def pd:aq:=(N_ 25 24 23 2 3 38 (G_ [a_ 26 1 22 24,l_ 27 26,m_ 7 27] (O_ [m_ 28 3,m_ 29 7,m_ 30 3,m_ 31 7,a_ 32 1 30 31,l_ 33 32,m_ 34 4,v_ 35 HA 1 34,A_ 36 HA 8 33 35,a_ 37 1 28 29,s_ 1 37 36])))
def vn:aq:=(N_ 16 15 14 0 1 39 (G_ [m_ 17 15,a_ 18 6 13 15,L_ 19 6 18,K_ 5 JJ,m_ 4 17,s_ 6 5 19] (G_ [f_ 20 2 5,f_ 21 3 20,l_ 22 21,z_ 23 22,k_ 24 0] (Q_ 2 pd))))
abbrev yf:Nat:=101
def xQ:aq:=(G_ [x_ 1 0,Z_ 2] (G_ [f_ 8 3 1,l_ 9 8,z_ 10 9,o_ 11 (.ik w9_ 24 (t_ 10) (t_ 10)),m_ 3 11] (J_ (G_ [f_ 12 3 1,l_ 13 12,z_ 14 13,k_ 15 0] (Q_ 0 vn)) (G_ [m_ 40 3,m_ 2 40] .ret))))
theorem FB:FF yf=some ⟨[(.tmp 2)],xQ,.no⟩:=by kernel_rfl
def rC:aq:=(N_ 96 95 94 8 9 107 (G_ [m_ 97 95,a_ 98 2 93 95,L_ 99 2 98,K_ 14 vx,m_ 13 97,s_ 2 14 99] (V_ [f_ 100 1 12,l_ 101 100,m_ 102 13,m_ 103 5,L_ 104 2 14,(F_ 105 172 [t_ 103,t_ 104],[100]),a_ 106 2 101 102,s_ 2 106 105])))
def rD:aq:=(N_ 89 88 87 6 7 108 (G_ [a_ 90 2 86 88,L_ 91 2 90,K_ 12 Td,s_ 2 12 91] (G_ [f_ 92 1 12,l_ 93 92,z_ 94 93,k_ 95 0] (Q_ 8 rC))))
def rE:aq:=(N_ 81 80 79 4 5 116 (G_ [m_ 82 80,a_ 83 6 78 80,L_ 84 6 83,K_ 10 JJ,m_ 9 82,s_ 6 10 84] (J_ (G_ [f_ 85 0 10,l_ 86 85,z_ 87 86,k_ 88 0] (Q_ 6 rD)) (V_ [m_ 109 1,n_ 110 109,f_ 111 3 110,l_ 112 111,m_ 113 9,L_ 114 6 10,a_ 115 6 112 113,s_ 6 115 114]))))
def rG:aq:=(N_ 59 58 57 2 3 72 (G_ [m_ 60 58,m_ 8 60] (O_ [m_ 61 5,m_ 62 5,n_ 63 62,f_ 64 3 63,l_ 65 64,m_ 66 8,o_ 67 (.build vx [(0,(1,(b_ true))),(1,(1,(t_ 66)))]),v_ 68 vx 2 67,A_ 69 vx 16 65 68,n_ 70 61,f_ 71 3 70,s_ 1 71 69])))
def rH:aq:=(N_ 31 30 29 0 1 53 (G_ [m_ 32 30,a_ 33 1 28 30,l_ 34 33,m_ 6 32,m_ 7 34] (G_ [m_ 35 7,C_ 36 .geq 35 0] (I_ 36 (V_ [m_ 37 5,n_ 38 37,f_ 39 2 38,l_ 40 39,m_ 41 7,m_ 42 5,n_ 43 42,f_ 44 2 43,l_ 45 44,m_ 46 7,a_ 47 1 45 46,l_ 48 47,m_ 49 6,v_ 50 HA 1 49,(A_ 51 HA 8 48 50,[39]),a_ 52 1 40 41,s_ 1 52 51]) .skip))))
abbrev Aq:Nat:=107
def zE:aq:=(G_ [M_ 4 false] (G_ [m_ 15 0,m_ 16 1,m_ 17 1,n_ 18 17,f_ 19 3 18,l_ 20 19,z_ 21 20,o_ 22 (.ik w9_ 24 (t_ 21) (t_ 21)),o_ 23 (.build [(.int .i64 0),(.pointer none),(.slice none 0 0),(.slice none 0 0),(.bool false)] [(0,(1,(t_ 15))),(1,(1,(t_ 16))),(2,(1,(t_ 22)))]),x_ 24 23,m_ 5 24] (J_ (G_ [m_ 25 1,n_ 26 25,L_ 27 4 26,F_ 28 85 [t_ 27],z_ 29 28,k_ 30 0] (Q_ 0 rH)) (J_ (G_ [m_ 54 1,n_ 55 54,f_ 56 2 55,l_ 57 56,k_ 58 0] (Q_ 2 rG)) (G_ [m_ 73 5,F_ 74 171 [t_ 73,(i_ 0),(.const (.map none))]] (J_ (G_ [m_ 75 1,n_ 76 75,f_ 77 3 76,l_ 78 77,z_ 79 78,k_ 80 0] (Q_ 4 rE)) (G_ [m_ 117 5,n_ 118 117,f_ 119 4 118,l_ 120 119,m_ 4 120] .ret)))))))
theorem HW:FF Aq=some ⟨[(.tmp 4)],zE,.no⟩:=by kernel_rfl
abbrev kR:Nat:=126
def kE:aq:=(G_ [Z_ 2] (J_ (G_ [m_ 3 0,o_ 4 (.bin .eql [3] (t_ 3) (.const (.slice none 0 0)))] (I_ 4 (G_ [Z_ 2] .ret) .skip)) (G_ [o_ 5 (.fH 0 [] []),m_ 6 0,A_ 7 JJ 96 5 6,m_ 2 7] .ret)))
theorem kG:FF kR=some ⟨[(.tmp 2)],kE,.no⟩:=by kernel_rfl
abbrev na:Nat:=127
def mP:aq:=(G_ [Z_ 2] (J_ (G_ [m_ 3 0,o_ 4 (.bin .eql [3] (t_ 3) (.const (.slice none 0 0)))] (I_ 4 (G_ [Z_ 2] .ret) .skip)) (G_ [o_ 5 (.fH 0 [] []),m_ 6 0,A_ 7 Td 32 5 6,m_ 2 7] .ret)))
theorem mS:FF na=some ⟨[(.tmp 2)],mP,.no⟩:=by kernel_rfl
abbrev nc:Nat:=128
def mQ:aq:=(G_ [Z_ 2] (J_ (G_ [m_ 3 0,o_ 4 (.bin .eql [3] (t_ 3) (.const (.slice none 0 0)))] (I_ 4 (G_ [Z_ 2] .ret) .skip)) (G_ [o_ 5 (.fH 0 [] []),m_ 6 0,A_ 7 vx 16 5 6,m_ 2 7] .ret)))
theorem gJ:FF nc=some ⟨[(.tmp 2)],mQ,.no⟩:=by kernel_rfl
abbrev mZ:Nat:=129
def mO:aq:=(G_ [Z_ 2] (J_ (G_ [m_ 3 0,o_ 4 (.bin .eql [3] (t_ 3) (.const (.slice none 0 0)))] (I_ 4 (G_ [Z_ 2] .ret) .skip)) (G_ [o_ 5 (.fH 0 [] []),m_ 6 0,A_ 7 XM 80 5 6,m_ 2 7] .ret)))
theorem mR:FF mZ=some ⟨[(.tmp 2)],mO,.no⟩:=by kernel_rfl
abbrev Ch:Nat:=132
def BI:aq:=(.seq (.ops [⟨(some 1),none,(.box (.tmp 0))⟩,⟨(some 2),none,(.mv (.const .nilFunc))⟩]) (.seq (.ops [⟨(some 3),none,(.uM 192 [(.tmp 1)])⟩,⟨(some 2),none,(.mv (.tmp 3))⟩]) .ret))
theorem JX:FF Ch=some ⟨[(.tmp 2)],BI,.no⟩:=by kernel_rfl
def j9:aq:=(N_ 9 8 7 0 1 18 (G_ [m_ 10 8,m_ 5 10] (G_ [m_ 11 1,m_ 12 0,m_ 13 5,a_ 14 2 12 13,L_ 15 2 14,o_ 16 (.call (t_ 11) [t_ 15])] (I_ 16 (G_ [m_ 17 5,m_ 4 17] .ret) .skip))))
abbrev ft:Nat:=133
def kF:aq:=(.seq (.ops [⟨(some 4),none,(.mv (.const (.int .i64 0)))⟩]) (.seq (.seq (.ops [⟨(some 6),none,(.mv (.tmp 0))⟩,⟨(some 7),none,(.uC (.tmp 6))⟩,⟨(some 8),none,(.mv (.const (.int .i64 0)))⟩]) (.block 0 (.loop j9))) (.seq (.ops [⟨(some 4),none,(.mv (.const (.int .i64 (Int.negSucc 0))))⟩]) .ret)))
theorem kH:FF ft=some ⟨[(.tmp 4)],kF,.no⟩:=by kernel_rfl
def nh:aq:=(N_ 165 164 163 18 19 176 (G_ [m_ 166 164,a_ 167 2 162 164,L_ 168 2 167,K_ 22 vx,m_ 21 166,s_ 2 22 168] (V_ [f_ 169 7 20,l_ 170 169,m_ 171 21,m_ 172 3,L_ 173 2 22,(F_ 174 195 [t_ 172,t_ 173],[169]),a_ 175 2 170 171,s_ 2 175 174])))
def Pg:aq:=(V_ [m_ 151 3,f_ 152 2 20,L_ 153 2 152,m_ 155 3,f_ 156 4 20,L_ 157 2 156,(F_ 154 195 [t_ 151,t_ 153],[156]),f_ 159 2 20,F_ 158 195 [t_ 155,t_ 157],s_ 2 159 154,f_ 160 4 20,s_ 2 160 158])
def Pf:aq:=(O_ [f_ 185 1 14,l_ 186 185,m_ 187 19,L_ 188 8 20,a_ 189 8 186 187,s_ 8 189 188])
def ni:aq:=(N_ 147 146 145 16 17 190 (G_ [m_ 148 146,a_ 149 8 144 146,L_ 150 8 149,K_ 20 XM,m_ 19 148,s_ 8 20 150] (J_ Pg (J_ (G_ [f_ 161 7 20,l_ 162 161,z_ 163 162,k_ 164 0] (Q_ 18 nh)) (J_ (G_ [f_ 177 1 20,l_ 178 177,C_ 179 .geq 178 0] (I_ 179 (O_ [m_ 180 3,f_ 181 1 20,l_ 182 181,F_ 183 194 [t_ 180,t_ 182],f_ 184 1 20,s_ 1 184 183]) .skip)) Pf)))))
def nj:aq:=(N_ 130 129 128 14 15 141 (G_ [m_ 131 129,a_ 132 2 127 129,L_ 133 2 132,K_ 18 vx,m_ 17 131,s_ 2 18 133] (V_ [f_ 134 1 16,l_ 135 134,m_ 136 17,m_ 137 3,L_ 138 2 18,(F_ 139 195 [t_ 137,t_ 138],[134]),a_ 140 2 135 136,s_ 2 140 139])))
def nk:aq:=(N_ 113 112 111 12 13 142 (G_ [m_ 114 112,a_ 115 2 110 112,L_ 116 2 115,K_ 16 Td,m_ 15 114,s_ 2 16 116] (J_ (V_ [f_ 117 0 14,l_ 118 117,m_ 119 15,m_ 120 3,f_ 121 0 16,l_ 122 121,(F_ 123 194 [t_ 120,t_ 122],[117]),a_ 124 2 118 119,f_ 125 0 124,s_ 1 125 123]) (G_ [f_ 126 1 16,l_ 127 126,z_ 128 127,k_ 129 0] (Q_ 14 nj)))))
def Pc:aq:=(V_ [f_ 191 3 1,l_ 192 191,m_ 193 13,m_ 194 3,f_ 195 2 14,f_ 196 1 195,L_ 197 2 196,(F_ 198 195 [t_ 194,t_ 197],[191]),a_ 199 6 192 193,f_ 200 2 199,f_ 201 1 200,s_ 2 201 198])
def np:aq:=(N_ 105 104 103 10 11 202 (G_ [m_ 106 104,a_ 107 6 102 104,L_ 108 6 107,K_ 14 JJ,m_ 13 106,s_ 6 14 108] (J_ (G_ [f_ 109 0 14,l_ 110 109,z_ 111 110,k_ 112 0] (Q_ 12 nk)) (J_ (G_ [f_ 143 1 14,l_ 144 143,z_ 145 144,k_ 146 0] (Q_ 16 ni)) Pc))))
def nq:aq:=(N_ 80 79 78 8 9 86 (G_ [a_ 81 2 77 79,L_ 82 2 81,K_ 12 vx,s_ 2 12 82] (O_ [m_ 83 3,L_ 84 2 12,F_ 85 195 [t_ 83,t_ 84]])))
def nr:aq:=(N_ 65 64 63 6 7 94 (G_ [a_ 66 8 62 64,L_ 67 8 66,K_ 10 XM,s_ 8 10 67] (G_ [m_ 68 3,f_ 69 2 10,L_ 70 2 69,F_ 71 195 [t_ 68,t_ 70]] (G_ [m_ 72 3,f_ 73 4 10,L_ 74 2 73,F_ 75 195 [t_ 72,t_ 74]] (J_ (G_ [f_ 76 7 10,l_ 77 76,z_ 78 77,k_ 79 0] (Q_ 8 nq)) (G_ [f_ 87 1 10,l_ 88 87,C_ 89 .geq 88 0] (I_ 89 (O_ [m_ 90 3,f_ 91 1 10,l_ 92 91,F_ 93 194 [t_ 90,t_ 92]]) .skip)))))))
def nu:aq:=(N_ 53 52 51 4 5 60 (G_ [a_ 54 2 50 52,L_ 55 2 54,K_ 8 Td,s_ 2 8 55] (O_ [m_ 56 3,f_ 57 0 8,l_ 58 57,F_ 59 194 [t_ 56,t_ 58]])))
def nv:aq:=(N_ 46 45 44 2 3 100 (G_ [a_ 47 6 43 45,L_ 48 6 47,K_ 6 JJ,s_ 6 6 48] (J_ (G_ [f_ 49 0 6,l_ 50 49,z_ 51 50,k_ 52 0] (Q_ 4 nu)) (J_ (G_ [f_ 61 1 6,l_ 62 61,z_ 63 62,k_ 64 0] (Q_ 6 nr)) (O_ [m_ 95 3,f_ 96 2 6,f_ 97 1 96,L_ 98 2 97,F_ 99 195 [t_ 95,t_ 98]])))))
def nx:aq:=(N_ 36 35 34 0 1 41 (G_ [m_ 37 35,m_ 4 37] (O_ [m_ 38 3,m_ 39 4,F_ 40 194 [t_ 38,t_ 39]])))
abbrev wB:Nat:=135
def vL:aq:=(G_ [x_ 1 0,K_ 2 TL] (J_ (V_ [L_ 23 4 1,L_ 24 4 1,(F_ 25 138 [t_ 24],[1]),F_ 26 137 [t_ 23,t_ 25],s_ 4 1 26]) (G_ [o_ 27 (.fH 1 HA [(0,(1,(.const (.int .i64 (Int.negSucc 0)))))]),f_ 28 2 1,l_ 29 28,F_ 30 144 [t_ 27,t_ 29],o_ 31 (.build [(.slice none 0 0),(.int .i64 0)] [(0,(1,(t_ 30)))]),x_ 32 31,m_ 3 32] (J_ (G_ [f_ 33 1 1,l_ 34 33,k_ 35 0] (Q_ 0 nx)) (J_ (G_ [f_ 42 3 1,l_ 43 42,z_ 44 43,k_ 45 0] (Q_ 2 nv)) (J_ (G_ [f_ 101 3 1,l_ 102 101,z_ 103 102,k_ 104 0] (Q_ 10 np)) (G_ [m_ 203 3,n_ 204 203,f_ 205 1 204,l_ 206 205,f_ 207 2 1,s_ 1 207 206] (G_ [L_ 208 4 1,s_ 4 2 208] .ret))))))))
theorem DE:FF wB=some ⟨[(.cell 2 (some 4))],vL,.no⟩:=by kernel_rfl
def M6:aq:=(V_ [m_ 54 4,m_ 55 4,n_ 56 55,f_ 57 1 56,l_ 58 57,f_ 59 1 6,l_ 60 59,A_ 61 XM 80 58 60,n_ 62 54,f_ 63 1 62,s_ 1 63 61])
def HX:aq:=(G_ [m_ 64 5,m_ 65 3,F_ 66 196 [t_ 1,t_ 64,t_ 65]] (G_ [m_ 67 4,f_ 68 2 6,L_ 69 4 68,n_ 70 67,f_ 71 2 70,s_ 4 71 69] (O_ [f_ 72 3 1,l_ 73 72,m_ 74 5,o_ 75 (.build [(.int .i64 0),(.bool false),(.int .i64 0),(.slice none 0 0)] [(0,(1,(i_ 1)))]),o_ 76 (.build JJ [(2,(4,(t_ 75)))]),a_ 77 6 73 74,s_ 6 77 76])))
def mu:aq:=(J_ (G_ [m_ 18 4,n_ 19 18,f_ 20 2 19,f_ 21 0 20,l_ 22 21,Y_ 23 .eql 22 2] (H_ 23 2)) (P_ 3 (G_ [m_ 24 4,n_ 25 24,f_ 26 2 25,f_ 27 3 26,l_ 28 27,o_ 29 (.dt none 1 (t_ 28) (i_ 0)),l_ 30 29,m_ 5 30] (G_ [f_ 31 3 1,l_ 32 31,m_ 33 5,a_ 34 6 32 33,L_ 35 6 34,K_ 6 JJ,s_ 6 6 35] (J_ (G_ [m_ 36 5,m_ 37 3,X_ 38 .eql 36 37,m_ 39 38,q_ 40 39 false (.cP 0 (t_ 6)),q_ 41 39 false (.load none (t_ 40)),q_ 42 39 false (.uC (t_ 41)),q_ 43 39 false (.bin .gtr [] (t_ 42) (i_ 0)),o_ 44 (.pick (t_ 39) (b_ true) (t_ 43)),m_ 45 44,q_ 46 45 false (.load (some 4) (t_ 1)),q_ 47 45 false (.call (.func 101) [t_ 46]),q_ 48 45 false (.mv (t_ 5)),q_ 49 45 false (.dt none 1 (t_ 47) (t_ 48)),q_ 50 45 false (.load none (t_ 49)),q_ 51 45 false (.uC (t_ 50)),q_ 52 45 false (.bin .gtr [] (t_ 51) (i_ 1)),o_ 53 (.pick (t_ 45) (b_ true) (t_ 52))] (I_ 53 (.exit 2) .skip)) (J_ M6 HX))))))
def te:aq:=(J_ (G_ [m_ 7 3,f_ 8 3 1,l_ 9 8,z_ 10 9,B_ 11 .lss 7 10] (H_ 11 0)) (J_ (P_ 1 (G_ [f_ 14 3 1,l_ 15 14,m_ 16 3,a_ 17 6 15 16,m_ 4 17] (Q_ 2 mu))) (O_ [m_ 12 3,C_ 13 .add 12 1,m_ 3 13])))
abbrev vm:Nat:=136
def vd:aq:=(G_ [x_ 1 0,K_ 2 TL] (J_ (G_ [k_ 3 0] (Q_ 0 te)) (G_ [L_ 78 4 1,s_ 4 2 78] .ret)))
theorem CG:FF vm=some ⟨[(.cell 2 (some 4))],vd,.no⟩:=by kernel_rfl
end Go.Proofs.YtdhnndleffachaaGreatDoor
