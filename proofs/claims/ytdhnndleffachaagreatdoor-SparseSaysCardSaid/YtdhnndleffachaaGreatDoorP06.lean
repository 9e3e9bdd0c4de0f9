/- Parts of the proof. -/
import Derived.Test.YtdhnndleffachaaGreatDoorP05
open Function renaming comp_def->n4
open Go renaming Value->aa,stepG->cG
open Nat renaming le_of_lt->qj,lt_of_le_of_lt->F1,min_eq_left->lE
open Option renaming some->Z,none->K,isSome_iff_exists->iH
open Bool renaming false->cd,true->ck
open List renaming length->cz,drop_eq_getElem_cons->et,drop_length->bE,find?_eq_none->D2,find?_some->o5,getElem?_zip_eq_some->dS,length->bW,length_cons->eN,length_zip->tV,map_append->aL,map_congr_left->cc,map_map->bL,map_set->cL,mem_append_left->aW,mem_append_right->af,mem_flatMap->ba,mem_of_find?_eq_some->e0,mem_of_mem_drop->qy,mem_singleton->bl,of_mem_zip->bV,range->aU,set_append_right->y6,set_cons_zero->r6,take_append_drop->qn
open Go.Value renaming slice->dB,bool->dC,int->fc,string->gX,agg->ix,bool->br,int->aA,slice->bf,string->cW
open Go.IntKind renaming i64->ft,i64->ec
open Or renaming inl->jZ,inr->kd
set_option linter.all false
set_option maxHeartbeats 1000000
namespace Go.Proofs.YtdhnndleffachaaGreatDoor
open Go.AI
variable{B E L L0 O P0 T0:SV}{M R1 R2 U i j k m n n0 o G t:Nat}{V:bH->Env->az->Prop}{a cg w p r:Int}{bs:List GB}{bw:List Nat}{e:Env}{C l:List (Int×(Bool×Int))}{fs:List GF}{fv:aa}{I:List GG}{h s h0 h1:az}{name:ByteArray}{P xs:List Int}{q:GI×SV}{row:List (Bool×Int)}{u:GU}{v x:Bool×Int}{y y0:YB}{ys:List YB}{W A:Type}
def kF.ext{f o:Lo->Option Nat}{a d:Nat}{I D:Lo}(w:kF False f)(b:∀l c,f l=Z c->c<a)(h:∀l c,o l=Z c->f l=Z c\/(l=I/\a<=c/\c<d)\/(l=D/\a<=c/\d<=c)):kF False o:=λx y c d C=>by rcases h x c d with p|⟨p,A,G⟩|⟨p,A,G⟩<;>rcases h y c C with q|⟨q,d,D⟩|⟨q,d,D⟩;exact w x y c p q;have:=b x c p;omega;have:=b x c p;omega;have:=b y c q;omega;exact jZ (p.trans q.symm);omega;have:=b y c q;omega;omega;exact jZ (p.trans q.symm)
structure BF(h:az)(n0 X:Nat)(y:YB):Prop where
 hX:di h X (eF.enc y)
 P:bm jf n0 h y.P.v y.ps
 L:bm ia n0 h y.L.v y.ls
 T:eM encI h y.T y.to
 ps:∀q∈y.ps,eM cZ h q.2 q.1.row
 ls:∀x∈y.ls,eM cZ h x.2 x.1.args
 inj:kF False y.loc
 new:∀l c,y.loc l=Z c->n0<=c/\c<h.aw/\c≠X
section
variable{h s:az}{n0 X:Nat}{y:YB}
def BF.z(w:BF h n0 X y):BZ h y:=⟨eO w.P,eO w.L,w.T,w.ps,w.ls⟩
def BF.go{S:Nat->Prop}(w:BF h n0 X y)(A:cu h)(g:ay S h s)(C:∀c,S c->c≠X/\∀l,y.loc l≠Z c):BF s n0 X y:=by have⟨a,D⟩:=w.hX;have z:=w.z.go A g λc l o=>(C c o).2 l;have G:=g.aw;exact⟨⟨a,g.get A D λe=>(C _ e).1 Q⟩,w.P.grow A g λc o e=>(C c e).2 .P (dI o),w.L.grow A g λc o e=>(C c e).2 .L (dI o),z.T,z.ps,z.ls,w.inj,λl c e=>⟨(w.new l c e).1,av ((w.new l c e).2.1),(w.new l c e).2.2⟩⟩
def BF.cm(w:BF h n0 X y)(c:cu h)(g:ay aR h s):BF s n0 X y:=w.go c g (λ_ h=>h.elim)
def BF.NP(w:BF h n0 X y)(I:cu h){D A:SV}{p:GP}(g:n0<=h.aw)(g:ay (λc=>c=X\/dt y.P=Z c) h s)(f:di s X (eF.enc {y with P:=D,ps:=y.ps++[(p,A)]}))(G:bm jf n0 s D.v (y.ps++[(p,A)]))(V:eM cZ s A p.row)(i:∀c,dt A=Z c->h.aw<=c/\c<m)(d:∀c,dt D=Z c->h.aw<=c/\m<=c)(z:X<h.aw):BF s n0 X {y with P:=D,ps:=y.ps++[(p,A)]} :=by
 have z:=g.aw;have no:∀c l,l≠ .P->(c=X\/dt y.P=Z c)->y.loc l≠Z c:=λc l W o e=>o.elim (w.new l c e).2.2 λh=>(w.inj l .P c e h).elim W λh=>h.1;have z:=w.z;have cg:∀q∈y.ps,eM cZ s q.2 q.1.row:=λq C=>by have⟨k,b⟩:=iG C;exact(z.ps q C).go I g λc o=>by rw[<-YB.jr b];exact no c (.R k) nofun o
 have a:∀l c,({y with P:=D,ps:=y.ps++[(p,A)]} :YB).loc l=Z c->y.loc l=Z c\/(l=.R (cz y.ps)/\h.aw<=c/\c<m)\/(l=.P/\h.aw<=c/\m<=c):=λl c e=>by
  cases l with
  |P=>exact kd (kd ⟨Q,d c e⟩)
  |R j=>
   have⟨q,h1,D⟩:=JT.1 e;by_cases d:j<cz y.ps;rw[MG d] at h1;exact jZ (JT.2 ⟨q,h1,D⟩)
   .rw[OC ab] at h1;have:j-cz y.ps=0:=by have:=(cY.mp h1).1;simp at this;omega
    rw[this] at h1;cases h1;exact kd (jZ ⟨by rw[show j=cz y.ps by omega],i c D⟩)
  |_=>exact jZ e
 refine⟨f,G,w.L.grow I g λc o e=>no c .L nofun e (dI o),w.T.go I g λc o=>no c .T nofun o,λq C=>?_,λx D=>?_,w.inj.ext (λl c e=>(w.new l c e).2.1) a,λl c e=>?_⟩;rcases kg.1 C with C|C;exact cg q C;cases bl.1 C;exact V
 .have⟨k,b⟩:=iG D;exact(z.ls x D).go I g λc o=>by rw[<-YB.kY b];exact no c (.X k) nofun o
 .have b:c<s.aw:=by rcases a l c e with D|⟨rfl,_⟩|⟨rfl,_⟩;have:=(w.new l c D).2.1;omega;rw[YB.jr (q:=(p,A)) J] at e;exact V.lt g.ok e;exact(eO G).lt g.ok e
  rcases a l c e with D|⟨_,D,_⟩|⟨_,D,_⟩;have:=w.new l c D;exact⟨this.1,b,this.2.2⟩;exact⟨ab,b,ab⟩;exact⟨ab,b,ab⟩
def BF.ins(w:BF h n0 X y)(I:cu h){a A:SV}{x:GI}(g:n0<=h.aw)(g:ay (λc=>c=X\/dt y.L=Z c) h s)(D:di s X (eF.enc {y with L:=a,ls:=y.ls++[(x,A)]}))(G:bm ia n0 s a.v (y.ls++[(x,A)]))(d:eM cZ s A x.args)(i:∀c,dt A=Z c->h.aw<=c/\c<m)(f:∀c,dt a=Z c->h.aw<=c/\m<=c)(z:X<h.aw):BF s n0 X {y with L:=a,ls:=y.ls++[(x,A)]} :=by
 have z:=g.aw;have no:∀c l,l≠ .L->(c=X\/dt y.L=Z c)->y.loc l≠Z c:=λc l V C e=>C.elim (w.new l c e).2.2 λh=>(w.inj l .L c e h).elim V λh=>h.1;have z:=w.z;have b:∀l c,({y with L:=a,ls:=y.ls++[(x,A)]} :YB).loc l=Z c->y.loc l=Z c\/(l=.X (cz y.ls)/\h.aw<=c/\c<m)\/(l=.L/\h.aw<=c/\m<=c):=λl c e=>by
  cases l with
  |L=>exact kd (kd ⟨Q,f c e⟩)
  |X j=>
   have⟨q,h1,a⟩:=JT.1 e;by_cases W:j<cz y.ls;rw[MG W] at h1;exact jZ (JT.2 ⟨q,h1,a⟩)
   .rw[OC ab] at h1;have:j-cz y.ls=0:=by have:=(cY.mp h1).1;simp at this;omega
    rw[this] at h1;cases h1;exact kd (jZ ⟨by rw[show j=cz y.ls by omega],i c a⟩)
  |_=>exact jZ e
 refine⟨D,w.P.grow I g λc C e=>no c .P nofun e (dI C),G,w.T.go I g λc C=>no c .T nofun C,λq o=>?_,λq o=>?_,w.inj.ext (λl c e=>(w.new l c e).2.1) b,λl c e=>?_⟩
 .have⟨k,D⟩:=iG o;exact(z.ps q o).go I g λc C=>by rw[<-YB.jr D];exact no c (.R k) nofun C
 .rcases kg.1 o with o|o
  .have⟨k,D⟩:=iG o;exact(z.ls q o).go I g λc C=>by rw[<-YB.kY D];exact no c (.X k) nofun C
  cases bl.1 o;exact d
 .have a:c<s.aw:=by rcases b l c e with D|⟨rfl,_⟩|⟨rfl,_⟩;have:=(w.new l c D).2.1;omega;rw[YB.kY (q:=(x,A)) J] at e;exact d.lt g.ok e;exact(eO G).lt g.ok e
  rcases b l c e with D|⟨_,D,_⟩|⟨_,D,_⟩;have:=w.new l c D;exact⟨this.1,a,this.2.2⟩;exact⟨ab,a,ab⟩;exact⟨ab,a,ab⟩
end
def ad.mem{R:List aa->W->Prop}{sz:Nat}{xs:List W}(s:ad R sz h L.v xs){x:W}(G:xs[i]?=Z x):∃b c w d o f,L.a=Z ⟨b,c,K⟩/\h.tr.get b=Z (.bZ w d o f):=by have⟨a,C,e,s⟩:=s;simp at e;rcases s with⟨rfl,_⟩|⟨b,c,w,d,o,f,A,D,_⟩;simp at G;exact⟨b,c,w,d,o,f,by rw[e.1,A],D⟩
structure OQ(h0:az)(P0 L0 T0:SV)(b:GB):Prop where
 sP:ad (pR h0) 2 h0 P0.v b.bz
 sL:ad (iR h0) 8 h0 L0.v b.list
 sT:ad nR 1 h0 T0.v b.to
 lp:cz b.bz<100000
 ll:cz b.list<100000
 lr:∀p∈b.bz,cz p.row<100000
 la:∀x∈b.list,cz x.args<100000
 lt:cz b.to<100000
def du(P0 L0 T0:SV)(b:GB):List aa:=[P0.v,L0.v,fc ft b.kind,dC b.on.1,fc ft b.on.2,T0.v]
def wo.dt{W:Type}{E:e7 W}{n0:Nat}{h:az}(C:cu h){L:SV}{xs:List W}(a:wo E n0 h L.v xs){c:Nat}(e:Go.Proofs.YtdhnndleffachaaGreatDoor.dt L=Z c):n0<=c/\c<h.aw:=by have A:=GQ a;refine⟨?_,A.lt C e⟩;rcases A.2 with⟨w,_⟩|⟨b,o,s,D,w,_⟩;simp[Go.Proofs.YtdhnndleffachaaGreatDoor.dt,w] at e;rw[cD w] at e;cases e;exact a.of (fH w)
def nM{E:e7 W}{xs:List W}(A:eM E h L xs){c:Nat}(e:dt L=Z c):bx L.v c:=by rcases A.2 with⟨w,_⟩|⟨b,o,s,C,w,_⟩;simp[dt,w] at e;rw[cD w] at e;cases e;exact fH w
def ayJ(h1:az)(n0 S X:Nat)(y0:YB)(b:GB)(m:Nat)(e:Env)(s:az):Prop:=
 ∃(j:Nat) (P:SV) (o:List (GP×SV)),m=cz b.bz-j/\j<=cz b.bz/\bU e 1 S/\bU e 2 (S+1)/\bU e 3 X/\bC e 4 j/\ay (· =X) h1 s/\(∀c,bx P.v c->h1.aw<=c)/\BF s n0 X {y0 with P:=P,ps:=o} /\o.map (·.1)=b.bz.take j
def U1(T:cu h0)(P:ay aR h0 h1){b:GB}(z:OQ h0 P0 L0 T0 b){n0 S X u:Nat}(i:n0<=h1.aw)(F:eR h1 S (du P0 L0 T0 b) u)(D:S≠X)(U:h0.aw<=X)(w:BF h1 n0 X y0)(i:y0.P=cM)(d:y0.ps=[])(l:bU e 1 S)(u:bU e 2 (S+1))(r:bU e 3 X)(c:bC e 4 0)(C:∀v s f o,bU v 1 S->bU v 2 (S+1)->bU v 3 X->ay (· =X) h1 s->BF s n0 X {y0 with P:=f,ps:=o} ->o.map (·.1)=b.bz->V (.exit 0) v s):aK FF (.loop kS) e h1 V:=by
 have y:=ad.len z.sP;have h:=z.lp;refine aK.loop (ayJ h1 n0 S X y0 b) ?_ (n:=cz b.bz) ⟨0,cM,[],Q,ab,l,u,r,c,.refl P.ok,λc E=>(Dg Q E).elim,by rw[<-i,<-d];exact w,Q⟩;rintro m v s⟨j,f,o,rfl,L,n,q2,U,O,g,hPn,a,u⟩;have D:=g.ok;have q:ay aR h0 s:=P.trans' g ai (λx h e=>ab);have⟨G,M⟩:=a.hX;have r:=g.get P.ok F ab;have v:=r;simp[du] at v;rw[y] at v;have W:=M;simp at W;have N:cz o=j:=by have:=congrArg bW u;simp at this;omega
 unfold kS;by_cases d:j<cz b.bz;have i:=ch ((j:Int)+1) ab ab;have⟨p,t⟩:=aQ b.bz j d;have F:=cO t;obtain⟨M,ap8,y,l,_,_,⟨A,rfl,N⟩,B,y⟩:=ad.later T z.sP t;have r:=y s q 0 1 ag;have M:=y s q 1 1 ag;simp[-ax] at r M;rw[l] at v;have h:=D.cg v;have L:=D.cg W;have k:=q.cg B;have P:=D.st _ _ _ _ _ v;have Up:=D.st _ _ _ _ _ W;simp[n,U,O,v,W,aB v,aB W,d,r,M,h,L,k,aI,bj,-ax];obtain⟨y,h,k,k,h,y,k,H⟩:=ad.mem z.sP t;rw[l] at k;simp at k;obtain⟨rfl,rfl⟩:=k;have B:=q.get T H;have y:=D.st _ _ _ _ _ B;have l:=(XQ N).cm T q;have I:=bk D;have M:=I.get D v;have r:=I.get D W;have T:=I.get D B;have q:=l.cm D I;have L:(tick s).aw=s.aw:=Q;rw[<-L];generalize l:tick s=h2 at*;have⟨N,h,L,H,l⟩:=ID (bytes:=16) I.ok (E:=cZ) (z:=[dC cd,fc ft 0]) rfl q (av (z.lr p F)) ag;have k:=l.get I.ok M;have M:=l.get I.ok r;have z:=l.get I.ok T;refine mn (aj L) ?_;simp[k,M,z,P,Up,y];have T:=aO l.ok (jf.enc (p,N)) 0;have k:=T.get l.ok M;have F:bp jf (aJ h (jf.enc (p,N)) 0) (dB (Z ⟨h.aw,0,K⟩) 1 1) [(p,N)]:=dq (bX _ _ _);have r:(aJ h (jf.enc (p,N)) 0).aw=h.aw+1:=Q;have P:=g.aw;have L:=l.aw;have z:=((a.cm D I).cm I.ok l).cm l.ok T;obtain⟨y,r,q,L,y,P⟩:=fg (bytes:=32) T.ok (z:=[fc ft 0,dB K 0 0]) rfl z.P F (by simp;omega) ag ab;obtain⟨B,rfl⟩:=bm.E5 L;refine mn (aj q) ?_;have F:=y.get T.ok k (λe=>(a.new .P X (dI e)).2.2 Q);simp[F,U,O,i];have i:=bc (off:=0) (vs:=[B.v]) y.ok F;simp at i;have q:=D.wf _ _ W;have z:=y.aw;have k:ay (λc=>c=X\/dt f=Z c) s _:=(((I.trans l).trans T).cm.trans (y.cU (λc _ e=>kd (dI (A:=f) e)))).trans (i.cU λc _ e=>jZ (e:c=X));have M:bm jf n0 (put r X 0 _ [B.v] 0) B.v (o++[(p,N)]):=L.grow y.ok i (λc E e=>av (P c E));have z:=(((GQ H).cm l.ok T).go T.ok y (λc E e=>by have:=(wo.dt l.ok H e).1;have:=(eO a.P).lt D (dI (A:=f) E);omega)).go y.ok i (λc E e=>av ((wo.dt l.ok H e).1));refine⟨cz b.bz-(j+1),ab,j+1,B,o++[(p,N)],Q,d,au n,au q2,au U,J,(((g.trans I.cm).trans l.cm).trans T.cm).trans' y ai (λc E e=>av (hPn c e)) |>.trans i,λc E=>av (P c E),?_,by rw[aL,u,kh,t];rfl⟩;exact a.NP D (m:=h.aw) ab k ⟨r.clock,by rw[aZ];rfl⟩ M z (λc e=>av (wo.dt l.ok H e)) (λc e=>av (P c (nM (eO L) e))) q
 .have:j=cz b.bz:=ab
  subst this;rw[mO] at u;simp[n,O,v];exact C _ _ f o (au n) (au q2) (au U) g a u
def ayI(h1:az)(n0 S X:Nat)(y0:YB)(b:GB)(m:Nat)(e:Env)(s:az):Prop:=
 ∃(j:Nat) (L:SV) (o:List (GI×SV)),m=cz b.list-j/\j<=cz b.list/\bU e 1 S/\bU e 2 (S+1)/\bU e 3 X/\bC e 5 j/\ay (· =X) h1 s/\(∀c,bx L.v c->h1.aw<=c)/\BF s n0 X {y0 with L:=L,ls:=o} /\o.map (·.1)=b.list.take j
def U0(E:cu h0)(B:ay aR h0 h1){b:GB}(p:OQ h0 P0 L0 T0 b){n0 S X u:Nat}(i:n0<=h1.aw)(l:eR h1 S (du P0 L0 T0 b) u)(q:S≠X)(D:h0.aw<=X)(w:BF h1 n0 X y0)(P:y0.L=cM)(g:y0.ls=[])(U:bU e 1 S)(u:bU e 2 (S+1))(H:bU e 3 X)(n:bC e 5 0)(C:∀r s F o,bU r 2 (S+1)->bU r 3 X->ay (· =X) h1 s->BF s n0 X {y0 with L:=F,ls:=o} ->o.map (·.1)=b.list->V (.exit 2) r s):aK FF (.loop kR) e h1 V:=by
 have y:=ad.len p.sL;have N:=p.ll;have N:=B.ok;refine aK.loop (ayI h1 n0 S X y0 b) ?_ (n:=cz b.list) ⟨0,cM,[],Q,ab,U,u,H,n,.refl N,λc D=>(Dg Q D).elim,by rw[<-P,<-g];exact w,Q⟩;rintro m r s⟨j,F,o,rfl,L,d,n,a,v,g,hLn,t,f⟩;have W:=g.ok;have T:ay aR h0 s:=B.trans' g ai (λx z e=>ab);have⟨G,P⟩:=t.hX;have M:=g.get N l q;simp[du] at M;rw[y] at M;have O:=P;simp at O;have r:cz o=j:=by have:=congrArg bW f;simp at this;omega
 unfold kR;by_cases H:j<cz b.list
 .have wj:=ch ((j:Int)+1) ab ab;have⟨x,z⟩:=aQ b.list j H;have i:=cO z;obtain⟨q,u,q,U,_,_,⟨A,rfl,q⟩,P,u⟩:=ad.later E p.sL z;have L:=u s T 0 8 ag;simp[-ax,aM] at L;rw[U] at M;have k:=(XQ q).cm E T;have lX:=W.wf _ _ O;have u:¬X=s.aw:=ab
  simp[d,a,v,M,O,aB M,aB O,H,L,bj,aH,cn,aX,u,-ax];have r:ay aR s (put (aJ s [fc ft 0,fc ft 0,dC cd,fc ft 0,dC cd,fc ft 0,fc ft 0,dB K 0 0] 0) s.aw 0 [fc ft 0,fc ft 0,dC cd,fc ft 0,dC cd,fc ft 0,fc ft 0,dB K 0 0] (ia.enc (x,A)) 0):=(ay.refl W).var _ _;have B:(put (aJ s [fc ft 0,fc ft 0,dC cd,fc ft 0,dC cd,fc ft 0,fc ft 0,dB K 0 0] 0) s.aw 0 [fc ft 0,fc ft 0,dC cd,fc ft 0,dC cd,fc ft 0,fc ft 0,dB K 0 0] (ia.enc (x,A)) 0).tr.get s.aw=Z (.bZ (ia.enc (x,A)) cd 0 s.clock):=by rw[aZ];rfl
  have U:(put (aJ s [fc ft 0,fc ft 0,dC cd,fc ft 0,dC cd,fc ft 0,fc ft 0,dB K 0 0] 0) s.aw 0 [fc ft 0,fc ft 0,dC cd,fc ft 0,dC cd,fc ft 0,fc ft 0,dB K 0 0] (ia.enc (x,A)) 0).aw=s.aw+1:=Q;simp only[Mr,SV.AA] at r B U;rw[<-U];generalize put (aJ s _ 0) s.aw 0 _ _ 0=h2 at*;have l:=k.cm W r;have⟨q,y,T,P,k⟩:=ID (bytes:=16) r.ok (E:=cZ) (z:=[dC cd,fc ft 0]) rfl l (av (p.la x i)) ag;refine dh (aj T) ?_;have E:=k.get r.ok B;have i:=k.get r.ok (r.get W O (λh=>h));have L:=bc (off:=7) (vs:=[q.v]) k.ok E;have p:=r.aw;have l:=k.aw;have p:X≠s.aw:=ab
  have l:=L.get k.ok i p;have O:(put y s.aw 7 (ia.enc (x,A)) [q.v] 0).tr.get s.aw=Z (.bZ (ia.enc (x,q)) cd 0 y.clock):=by rw[aZ];rfl
  simp only[Mr,SV.AA] at L l O;simp[E,a,u,i,aX];generalize N:put y s.aw 7 _ _ 0=h4 at*;have U:=L.aw;have B:ay aR s h4:=(r.trans k).trans' L ai (λc D e=>ab);have i:h4.aw=y.aw:=by rw[<-N];rfl
  rw[<-i];have u:=aO L.ok (ia.enc (x,q)) 0;have O:=B.trans u;have N:=t.cm W O;have U:=u.get L.ok l;have B:bp ia (aJ h4 (ia.enc (x,q)) 0) (dB (Z ⟨h4.aw,0,K⟩) 1 1) [(x,q)]:=dq (bX _ _ _);have T:(aJ h4 (ia.enc (x,q)) 0).aw=h4.aw+1:=Q;have r:=g.aw;obtain⟨p,l,E,T,i,p⟩:=fg (bytes:=80) u.ok (z:=[fc ft 0,fc ft 0,dC cd,fc ft 0,dC cd,fc ft 0,fc ft 0,dB K 0 0]) rfl N.L B (by simp;omega) ag ab;obtain⟨N,rfl⟩:=bm.E5 T;refine dh (aj E) ?_;have r:=i.get u.ok U (λe=>(t.new .L X (dI e)).2.2 Q);simp[r,a,v,wj];have U:=bc (off:=1) (vs:=[N.v]) i.ok r;simp at U;have B:=i.aw;have I:∀c,dt q=Z c->h2.aw<=c/\c<y.aw:=λc e=>wo.dt k.ok P e;have r:ay (λc=>c=X\/dt F=Z c) s _:=(O.cm.trans (i.cU (λc _ e=>kd (dI (A:=F) e)))).trans (U.cU λc _ e=>jZ (e:c=X));have B:bm ia n0 (put l X 1 _ [N.v] 0) N.v (o++[(x,q)]):=T.grow i.ok U (λc D e=>av (p c D));have E:=((((GQ P).go k.ok L (λc D e=>av (I c e))).cm L.ok u).go u.ok i (λc D e=>by have:=I c e;have:=(eO t.L).lt W (dI (A:=F) D);omega)).go i.ok U (λc D e=>av (I c e));refine⟨cz b.list-(j+1),ab,j+1,N,o++[(x,q)],Q,H,au d,au n,au a,J,((g.trans O.cm).trans' i ai (λc D e=>av (hLn c e))).trans U,λc D=>av (p c D),?_,by rw[aL,f,kh,z];rfl⟩;exact t.ins W (m:=y.aw) ab r ⟨l.clock,by rw[aZ];rfl⟩ B E (λc e=>av (I c e)) (λc e=>av (p c (nM (eO T) e))) lX
 .have:j=cz b.list:=ab
  subst this;rw[mO] at f;simp[d,v,M];exact C _ _ F o (au n) (au a) g t f
def RBZ(b:GB)(h:az)(v:aa)(s:az):Prop:=ay aR h s/\∃y:YB,v=ix ⟨eF.enc y⟩/\BZ s y/\y.g=b/\kF False y.loc/\∀l c,y.loc l=Z c->h.aw<=c
def HZ(n:cu h0)(d:ay aR h0 h){b:GB}(j:OQ h0 P0 L0 T0 b):aY FF 90 [ix ⟨du P0 L0 T0 b⟩] h (RBZ b h):=by
 have g:=d.ok;have r:¬h.aw=h.aw+1:=ab
 refine aY.of D4 ?_;unfold uX;have q:¬h.aw=h.aw+1+1:=ab
 have D:¬h.aw+1=h.aw+1+1:=ab
 have f:=aO g (du P0 L0 T0 b) 0;have g:=aO f.ok [dB K 0 0,dB K 0 0,fc ft 0,dC cd,fc ft 0,dB K 0 0] 0;have c:=bk g.ok;have T:=aO c.ok [] 0;have k:=aO T.ok [dB K 0 0,dB K 0 0,fc ft 0,dC cd,fc ft 0,dB K 0 0] 0;have I:ay aR h _:=(((f.trans g).trans c).trans T).trans k;have p:wo encI (h.aw+1+1) _ (dB (Z ⟨h.aw+1+1,0,K⟩) 0 0) []:=kd ⟨Q,h.aw+1+1,0,Q,k.get T.ok (bX (tick (aJ (aJ h (du P0 L0 T0 b) 0) [dB K 0 0,dB K 0 0,fc ft 0,dC cd,fc ft 0,dB K 0 0] 0)) [] 0) (λh=>h),fq _⟩;have s:=(((g.trans c).trans T).trans k).get f.ok (bX h (du P0 L0 T0 b) 0);have f:=((c.trans T).trans k).get g.ok (bX (aJ h (du P0 L0 T0 b) 0) [dB K 0 0,dB K 0 0,fc ft 0,dC cd,fc ft 0,dB K 0 0] 0);have m:=bX (aJ (tick (aJ (aJ h (du P0 L0 T0 b) 0) [dB K 0 0,dB K 0 0,fc ft 0,dC cd,fc ft 0,dB K 0 0] 0)) [] 0) [dB K 0 0,dB K 0 0,fc ft 0,dC cd,fc ft 0,dB K 0 0] 0;have T:(aJ (aJ (tick (aJ (aJ h (du P0 L0 T0 b) 0) [dB K 0 0,dB K 0 0,fc ft 0,dC cd,fc ft 0,dB K 0 0] 0)) [] 0) [dB K 0 0,dB K 0 0,fc ft 0,dC cd,fc ft 0,dB K 0 0] 0).aw=h.aw+4:=Q;simp[du,r,q,D];simp only[du,SV.AA] at I p s f m T;generalize T:aJ (aJ (tick (aJ (aJ h [dB P0.a P0.l P0.c,dB L0.a L0.l L0.c,fc ft b.kind,dC b.on.1,fc ft b.on.2,dB T0.a T0.l T0.c] 0) [dB K 0 0,dB K 0 0,fc ft 0,dC cd,fc ft 0,dB K 0 0] 0)) [] 0) [dB K 0 0,dB K 0 0,fc ft 0,dC cd,fc ft 0,dB K 0 0] 0=h5 at*;have T:=(WD j.sT).cm n (d.trans I);obtain⟨D,g,k,D,_,A⟩:=vA (bytes:=8) (z:=[fc ft 0]) I.ok rfl p T (by have:=j.lt;simp;omega) ag ab;obtain⟨T,rfl⟩:=wo.sv D;refine mn (aj k) ?_;have k:∀c,bx (bf (Z ⟨h.aw+1+1,0,K⟩) 0 0) c->c=h.aw+2:=λc o=>by have⟨_,_,_,e⟩:=o;cases e;rfl
 have r:=A.get I.ok s (λe=>av (k _ e));have p:=A.get I.ok f (λe=>by have:=k _ e;simp at this);have f:=A.get I.ok m (λe=>by have:=k _ e;simp at this);simp at p f;have m:wo encI (h.aw+1+1) g T.v b.to:=aj D
 have s:∀c,bx T.v c->c≠h.aw+1+1+1:=λc o e=>by rcases m with a|⟨_,q,i,C,D,_⟩;rcases a with⟨_,C⟩|⟨q,i,C,D,_,_⟩;rw[C] at o;have⟨_,_,_,i⟩:=o;cases i;rw[C] at o;have⟨_,_,_,i⟩:=o;cases i;rw[e,f] at D;simp at D;rw[C] at o;have⟨_,_,_,i⟩:=o;cases i;rw[e,f] at D;simp at D
 have q:ay aR h g:=I.trans' A ai (λc o e=>av (k c e));simp[r,p,f];have D:=bc (off:=0) (vs:=[bf K 0 0,bf K 0 0,aA ec b.kind,br b.on.1,aA ec b.on.2,bf T.a T.l T.c]) A.ok f;have k:ay aR h _:=q.trans' D ai (λc o e=>ab);have q:(put g (h.aw+1+1+1) 0 [dB K 0 0,dB K 0 0,fc ft 0,dC cd,fc ft 0,dB K 0 0] [bf K 0 0,bf K 0 0,aA ec b.kind,br b.on.1,aA ec b.on.2,bf T.a T.l T.c] 0).tr.get (h.aw+1+1+1)=Z (.bZ [cM.v,cM.v,fc ft b.kind,dC b.on.1,fc ft b.on.2,T.v] cd 0 g.clock):=by rw[aZ];rfl
 have i:=D.get A.ok r ab;have u:=D.get A.ok p ab;have f:=(GQ m).grow A.ok D (λc o e=>s c o e);generalize put g (h.aw+1+1+1) 0 _ _ 0=h7 at*;have⟨y0,w⟩:∃y0:YB,y0=⟨cM,cM,T,b.kind,b.on,[],[],b.to⟩:=⟨_,Q⟩;have only:∀l c,y0.loc l=Z c->l=.T/\dt T=Z c:=λl c e=>by subst w;cases l<;>first|exact⟨rfl,e⟩|exact absurd e (by simp[YB.loc,dt,cM])
 have p:BF h7 (h.aw+1+1) (h.aw+1+1+1) y0:=by refine⟨⟨_,by rw[w];exact q⟩,by rw[w];exact jZ ⟨Q,Q⟩,by rw[w];exact jZ ⟨Q,Q⟩,by rw[w];exact f,by rw[w];exact nofun,by rw[w];exact nofun,λa b c h1 g=>jZ ((only a c h1).1.trans (only b c g).1.symm),λl c e=>?_⟩;have C:=(only l c e).2;exact⟨(wo.dt A.ok m C).1,f.lt D.ok C,s c (nM f C)⟩
 have f:=k.aw;have f:=d.aw;have f:=D.ok.wf _ _ q;refine U1 n (d.trans k) j (n0:=h.aw+1+1) (S:=h.aw) (X:=h.aw+1+1+1) ab (by simpa [du] using i) ab ab p (by rw[w]) (by rw[w]) J J J J ?_;intro p p m W r g s f t v;simp;have q:ay aR h p:=k.trans' f ai (λc o e=>ab);have k:=f.aw;have k:=f.get D.ok i ab;have p:=f.get D.ok u ab;refine U0 n (d.trans q) j (n0:=h.aw+1+1) (S:=h.aw) (X:=h.aw+1+1+1) ab (by simpa [du] using k) ab ab t (by rw[w]) (by rw[w]) (au r) (au g) (au s) J ?_;intro s t n V r s d j k;have⟨G,g⟩:=j.hX;have i:=g;simp[w] at i;have D:=d.get f.ok p ab;have g:ay aR h t:=q.trans' d ai (λc o e=>ab);simp[r,s,i,D];have f:=bc (off:=0) (vs:=[m.v,n.v,fc ft b.kind,dC b.on.1,fc ft b.on.2,T.v]) d.ok D;simp at f;have D:∀l c,({y0 with P:=m,ps:=W,L:=n,ls:=V} :YB).loc l=Z c->h.aw+1+1<=c:=λl c e=>(j.new l c e).1;refine⟨g.trans' f ai (λc o e=>ab),{y0 with P:=m,ps:=W,L:=n,ls:=V},au w,j.z.go d.ok f (λc l o e=>av (D l c e)),by simp[YB.g,v,k,w],j.inj,λl c e=>av (D l c e)⟩
section
variable{h s:az}{n0:Nat}{B d:SV}{ys:List YB}{y:YB}{S:Nat->Prop}
def FZ.push(W:FZ h n0 B ys)(t:xS B ys)(D:cu h)(r:ay S h s)(v:∀c,S c->dt B=Z c\/h.aw<=c)(z:n0<=h.aw)(A:eM eF s d (ys++[y]))(z:BZ s y)(u:kF False y.loc)(b:∀l c,y.loc l=Z c->h.aw<=c/\c<m)(j:∀c,dt d=Z c->h.aw<=c/\m<=c):FZ s n0 d (ys++[y])/\xS d (ys++[y]):=by
 have g:∀(o:Option (Nat×Lo))(c:Nat),dV d (ys++[y]) o=Z c->(o=K/\h.aw<=c/\m<=c)\/(∃l,o=Z (cz ys,l)/\y.loc l=Z c)\/(o≠K/\dV B ys o=Z c):=λo c e=>by
  match o with
  |none=>exact jZ ⟨Q,j c e⟩
  |some (i,l)=>
   have⟨q,h1,G⟩:=JT.1 e;by_cases j:i<cz ys
   .rw[MG j] at h1;exact kd (kd ⟨nofun,JT.2 ⟨q,h1,G⟩⟩)
   .rw[OC ab] at h1;have:i-cz ys=0:=by have:=(cY.mp h1).1;simp at this;omega
    rw[this] at h1;cases h1;exact kd (jZ ⟨l,by rw[show i=cz ys by omega],G⟩)
 have n:xS d (ys++[y]):=λa f c h1 G=>by
  rcases g a c h1 with⟨p,w,E⟩|⟨l,p,w⟩|⟨p,w⟩<;>rcases g f c G with⟨q,C,E⟩|⟨k,q,C⟩|⟨q,C⟩;exact jZ (p.trans q.symm);have:=b k c C;omega;have:=W.lt D C;omega;have:=b l c w;omega;exact(u l k c w C).imp (λe=>by rw[p,q,e]) λe=>e.1.elim;have:=b l c w;have:=W.lt D C;omega
  have:=W.lt D w;omega;have:=b k c C;have:=W.lt D w;omega
  exact t a f c w C
 refine⟨⟨A,λx I=>?_,λa f c h1 G=>(n a f c h1 G).imp id λe=>e.1.elim,λo c e=>?_⟩,n⟩
 .rcases kg.1 I with I|I
  .have⟨i,j⟩:=iG I;refine(W.r x I).go D r λc l r e=>?_;have V:dV B ys (Z (i,l))=Z c:=by rw[cC j];exact e
   rcases v c r with j|j;have:=W.tQ K (Z (i,l)) c j V;cases this;have:=W.lt D V;omega
  cases bl.1 I;exact z
 rcases g o c e with⟨_,p,_⟩|⟨l,_,p⟩|⟨_,p⟩;omega;have:=b l c p;omega;exact W.new o c p
def FZ.zero(w:n0<=h.aw):FZ h n0 cM []/\xS cM []:=by
 have no:∀(o:Option (Nat×Lo))(c:Nat),dV cM [] o≠Z c:=λo c e=>by
  match o with
  |none=>cases e
  |some (i,l)=>simp[dV] at e
 exact⟨⟨⟨Q,jZ ⟨Q,Q,Q⟩⟩,nofun,λa b c h1 _=>absurd h1 (no a c),λo c e=>absurd e (no o c)⟩,λa b c h1 _=>absurd h1 (no a c)⟩
end
def FnZ(h1:az)(S X:Nat)(name:ByteArray)(p r:Int)(bs:List GB)(m:Nat)(e:Env)(s:az):Prop:=
 ∃(j:Nat) (a:SV) (ys:List YB),m=cz bs-j/\j<=cz bs/\bU e 1 S/\bU e 2 (S+1)/\bU e 3 X/\bC e 4 j/\ay (· =X) h1 s/\(di s X (aC name p r a))/\bm eF h1.aw s a.v ys/\FZ s h1.aw a ys/\xS a ys/\ys.map YB.g=bs.take j
def SH{X:Nat}(T:cu h0)(P:cu h1)(a:∀ {s:az},ay (· =X) h1 s->ay aR h0 s)(z:qP h0 B bs)(A:∀b∈bs,Kr b)(d:cz bs<100000){S u G:Nat}(i:X<h1.aw)(F:eR h1 S (aC name p r B) u)(t:S≠X)(M:eR h1 X (aC name p r cM) G)(u:bU e 1 S)(x:bU e 2 (S+1))(k:bU e 3 X)(i:bC e 4 0)(C:∀v s n ys,bU v 2 (S+1)->bU v 3 X->ay (· =X) h1 s->(di s X (aC name p r n))->FZ s h1.aw n ys->xS n ys->ys.map YB.g=bs->V (.exit 0) v s):aK FF (.loop mz) e h1 V:=by
 have n:=ad.len z;have c:=FZ.zero (h:=h1) (fq h1.aw);refine aK.loop (FnZ h1 S X name p r bs) ?_ (n:=cz bs) ⟨0,cM,[],Q,ab,u,x,k,i,.refl P,⟨G,M⟩,jZ ⟨Q,Q⟩,c.1,c.2,Q⟩;rintro m v s⟨j,O,ys,rfl,x,H,q2,U,x,g,⟨sX2,dy⟩,D,M,k,u⟩;have w:=g.ok;have q:ay aR h0 s:=a g;have N:=g.get P F t;have o:=N;have v:=dy;simp[aC] at o v;rw[n] at o;unfold mz;by_cases d:j<cz bs
 .have wj:=ch ((j:Int)+1) ab ab;have⟨b,f⟩:=aQ bs j d;have n:=cO f;obtain⟨F,Sg,a,F,_,_,⟨P0,L0,T0,rfl,E,i,t⟩,a,P⟩:=ad.later T z f;have L:=P s q 0 6 ag;simp[-ax] at L;rw[F] at o;have c:=w.cg o;have F:=w.cg v;have N:=q.cg a;have P:=w.st _ _ _ _ _ v;have z:=A b n;simp[H,U,x,o,v,aB o,aB v,d,L,c,F,N,aI,-ax];have n:=bk w;have L:(tick s).aw=s.aw:=Q;generalize tick s=h2 at*;refine bS.call (V:=RBZ b h2) (by simpa [du] using HZ T (q.trans n) (P0:=P0) (L0:=L0) (T0:=T0) ⟨E,i,t,z.lp,z.ll,z.lr,z.la,z.lt⟩) ?_;rintro _ F⟨E,y,rfl,a,yg,T,ny⟩;have N:=E.get n.ok (n.get w v (λh=>h));have q:=w.wf _ _ v;simp[N,P];have b:=aO E.ok (eF.enc y) 0;have P:=(n.trans E).trans b;have q:=D.grow w P ai;have v:=b.get E.ok N;have N:bp eF (aJ F (eF.enc y) 0) (dB (Z ⟨F.aw,0,K⟩) 1 1) [y]:=dq (bX _ _ _);have A:(aJ F (eF.enc y) 0).aw=F.aw+1:=Q;have l1:=g.aw;have A:=E.aw;have t:cz ys=j:=by have:=congrArg bW u;simp at this;omega
  obtain⟨t,L,z,t,I,A⟩:=fg (bytes:=96) b.ok (z:=[dB K 0 0,dB K 0 0,fc ft 0,dC cd,fc ft 0,dB K 0 0]) rfl q N ab ag ab;obtain⟨n,rfl⟩:=bm.E5 t;refine mn (aj z) ?_;have i:¬bx O.v X:=λe=>av (D.of e)
  have z:=I.get b.ok v i;simp[z,U,x,wj];have i:=bc (off:=3) (vs:=[n.v]) I.ok z;simp at i;have N:∀l c,y.loc l=Z c->s.aw<=c/\c<F.aw:=λl c e=>⟨av (ny l c e),a.lt E.ok e⟩;have z:=(a.cm E.ok b).go b.ok I (λc l W e=>by have:=N l c e;have:=(eO D).lt w (dI (A:=O) W);omega);have E:=M.push k (m:=F.aw) w (P.cm.trans I) (λc W=>jZ (dI W)) l1 (eO t) z T N (λc e=>av (A c (nM (eO t) e)));refine⟨cz bs-(j+1),ab,j+1,n,ys++[y],Q,d,au H,au q2,au U,J,((g.trans P.cm).trans' I ai (λc W e=>av (D.of e))).trans i,⟨L.clock,by rw[aZ];rfl⟩,t.grow I.ok i (λc W e=>av (A c W)),E.1.go I.ok i (λc l e a=>av (E.1.new l c a)),E.2,by rw[aL,u,kh,f,<-yg];rfl⟩
 .have:j=cz bs:=ab
  subst this;rw[mO] at u;simp[H,x,o];exact C _ _ O ys (au q2) (au U) g ⟨sX2,dy⟩ M k u
def ui(d:cu h0)(c:ay aR h0 h){name:ByteArray}{p r:Int}(m:qP h0 B bs)(a:∀b∈bs,Kr b)(i:cz bs<100000):aY FF 37 [ix ⟨aC name p r B⟩] h (lD name p r bs h):=by
 have f:=c.ok;have C:¬h.aw=h.aw+1:=ab
 have D:¬h.aw=h.aw+1+1:=ab
 have A:¬h.aw+1=h.aw+1+1:=ab
 refine aY.of Fs ?_;unfold wH;simp[aC,C,D,A,aX];refine aK.cut (λh1=>ay aR h h1/\(di h1 h.aw (aC name p r B))/\(di h1 (h.aw+1) [gX ⟨⟨[]⟩⟩,fc ft 0,fc ft 0,dB K 0 0])/\(di h1 (h.aw+1+1) (aC name p r cM))/\h.aw+3<=h1.aw) ?_ ?_;refine⟨(((ay.refl f).new _ _).new _ _).var _ _,⟨0,by simp[C,D,A,aC]⟩,⟨0,by simp[C,D,A]⟩,⟨h.clock,by simp[aX,aC,cM]⟩,J⟩;rintro h1⟨w,⟨f,j⟩,⟨f,k⟩,⟨G,f⟩,D⟩;have D:=c.aw;refine SH d w.ok (λg=>(c.trans w).trans' g ai (λc D e=>ab)) m a i (S:=h.aw) (X:=h.aw+1+1) ab j ab f J J J J ?_;intro f f d ys f V o ⟨W,a⟩ F xi mp;have I:=o.get w.ok k ab;simp[aC] at a;simp[f,V,a,I];have a:=bc (off:=0) (vs:=[gX name,fc ft p,fc ft r,d.v]) o.ok I;simp at a;exact⟨(w.trans' o ai (λc D e=>ab)).trans' a ai (λc D e=>ab),d,ys,by simp[aC],(F.go o.ok a (λc l e a=>av (F.new l c a))).cU ab,xi,mp⟩
def azw(h1:az)(xs:List Int)(C:List (Int×(Bool×Int)))(e:Env)(m:Nat)(a:Env)(s:az):Prop:=
 ∃(j:Nat) (L:SV),m=cz C-j/\j<=cz C/\aG ([10,11,12]++(aU 25).map (· +54)) e a/\bY a 10=L.v/\bC a 11 j/\ay aR h1 s/\bm iF h1.aw s L.v (fS (aV xs) (C.take j))
def Wk(f:Int->Int)(l:List (Int×(Bool×Int))):cz (fS f l)<=cz l:=List.length_filterMap_le _ _
def aab(D:cu h1)(B:bp encI h1 O.v xs)(z:bp iF h1 E.v C)(U:cz xs<1000000)(T:cz C<1000000)(u:bY e 1=O.v)(X:bY e 9=E.v)(b:bY e 10=cM.v)(F:bC e 11 0)(N:∀y s (L:SV),aG ([10,11,12]++(aU 25).map (· +54)) e y->bY y 10=L.v->ay aR h1 s->bm iF h1.aw s L.v (fS (aV xs) C)->V (.exit 4) y s):aK FF (.loop mB) e h1 V:=by
 have n:E.l=cz C:=by have⟨a,p,e,_⟩:=id z;simp at e;exact e.2.1
 refine aK.loop (azw h1 xs C e) ?_ (n:=cz C) ⟨0,cM,Q,ab,aG.refl _ _,b,F,.refl D,jZ ⟨Q,Q⟩⟩;rintro m y s⟨j,L,rfl,h,p,k,A,g,o⟩;have F:=g.ok;have l:=p.at (t:=1) u;have w:=p.at (t:=9) X;unfold mB;by_cases G:j<cz C
 .have f:=ch ((j:Int)+1) ab ab;have⟨x,h⟩:=aQ C j G;obtain⟨b,S,y,I,_,_,S⟩:=(z.cm D g).read h;have P:=S 0 1 ag;have u:=S 1 2 ag;simp[-ax] at P u I;simp at w;rw[I.1,n] at w;have q:=Nf (f:=aV xs) h;have z:=Wk (aV xs) (C.take j);have i:cz (C.take j)<=j:=by simp;omega
  have i:=g.aw;simp[l,w,A,G,P,-ax];refine bh.call (V:=λv t=>t=s/\v=fc ft (aV xs x.1)) (by simpa [l] using xB (B.cm D g) U x.1) ?_;rintro _ t⟨c,rfl⟩;rw[c];by_cases W:0<=aV xs x.1
  .rw[bK W] at q;simp[W,w,k,A,G,u,-ax];have l:=aO F (iF.enc (aV xs x.1,x.2)) 0;have h:=o.grow F l ai;have H:bp iF (aJ s (iF.enc (aV xs x.1,x.2)) 0) (dB (Z ⟨s.aw,0,K⟩) 1 1) [(aV xs x.1,x.2)]:=dq (bX _ _ _);have r:(aJ s (iF.enc (aV xs x.1,x.2)) 0).aw=s.aw+1:=Q;have⟨t,S,u,y,B,_⟩:=fg (bytes:=24) l.ok (z:=[fc ft 0,dC cd,fc ft 0]) rfl h H ab ag ab;obtain⟨M,rfl⟩:=bm.E5 y;refine dh (aj u) ?_;simp[A,f];refine⟨cz C-(j+1),ab,j+1,M,Q,G,?_,J,J,(g.trans l).trans' B ai (λc d e=>av (o.of e)),by rw[q];exact y⟩
   exact aq
  .rw[bM W,Bx] at q;simp[W,A,f];refine⟨cz C-(j+1),ab,j+1,L,Q,G,?_,au k,J,g,by rw[q];exact o⟩
   exact aq
 .have:j=cz C:=ab
  subst this;rw[mO] at o;simp at w;rw[n] at w;simp[w,A];refine N _ _ L ?_ (au k) g o
  exact aq
def zS(X:Nat):SV:=⟨Z ⟨X,0,K⟩,1,1⟩
def akq{X s:Nat}(c:eR h X (eF.enc y) s):eM eF h (zS X) [y]:=⟨Q,kd ⟨X,0,s,[],Q,Q,by simpa [e7.flat] using c,jZ Q⟩⟩
structure KR1(h0 h1:az)(n0 F X:Nat)(name:ByteArray)(p r:Int)(B O:SV)(bs:List GB)(bw:List Nat):Prop where
 g:ay aR h0 h1
 ok:cu h0
 hB:qP h0 B bs
 E:EB bs
 hO:bp encI h0 O.v (nI bw)
 ol:cz bw<100000
 hF:di h1 F (aC name p r B)
 lF:F<n0
 l0:h0.aw<=n0
 lX:n0<=X
def azb(h1:az)(n0 X:Nat)(y0:YB)(P:GP->GP)(e:Env)(m:Nat)(a:Env)(s:az):Prop:=
 ∃(j:Nat) (c:List (GP×SV)),m=cz y0.ps-j/\j<=cz y0.ps/\aG ([8,9,10,11,12]++(aU 60).map (· +36)) e a/\bC a 8 j/\(di s X (eF.enc y0))/\cV h1 s n0 (zS X) [y0] (zS X) [{y0 with ps:=c}]/\cz c=cz y0.ps/\∀(i:Nat)(q o:GP×SV),y0.ps[i]?=Z q->c[i]?=Z o->(i<j->o.1=P q.1)/\(j<=i->o=q)
def aac{n0 u X:Nat}(R:KR1 h0 h1 n0 u X name p r B O bs bw)(hn:n0<=h1.aw){M:GB}(U:bw[n]?=Z k)(b:bs[k]?=Z M)(BR:y0.g=M)(W:FZ h1 n0 (zS X) [y0])(t:eR h1 X (eF.enc y0) G)(d:bY e 1=O.v)(D:bU e 2 u)(T:bC e 6 n)(y:bU e 7 X)(E:bC e 8 0)(C:∀c s H,aG ([8,9,10,11,12]++(aU 60).map (· +36)) e c->(di s X (eF.enc y0))->cV h1 s n0 (zS X) [y0] (zS X) [{y0 with ps:=H}]->H.map (·.1)=M.bz.map (pd (aV (nI bw)) (cz bw) (aN bs k))->V (.exit 2) c s):aK FF (.loop mC) e h1 V:=by
 have S:=R.E.n50;have N:=R.g.ok;have P:cz y0.ps<100000:=by have:=R.E.pl M (cO b);rw[<-BR] at this;simpa [YB.g] using this
 refine aK.loop (azb h1 n0 X y0 (pd (aV (nI bw)) (cz bw) (aN bs k)) e) ?_ (n:=cz y0.ps) ⟨0,y0.ps,Q,ab,aG.refl _ _,E,⟨G,t⟩,.refl W N,Q,λi q o a E=>⟨λh=>ab,λ_=>by rw[a] at E;cases E;rfl⟩⟩;rintro m c s⟨j,H,rfl,g,P,q8,⟨Yj,A⟩,S,F,H'⟩;have g:=S.g;have I:=g.ok;have f:∀c,cK (zS X) [y0] c->n0<=c:=λc ⟨l,e⟩=>W.new l c e;have g0:ay aR h0 s:=R.g.trans' g ai (λc hc e=>by have:=f c e;have:=R.l0;omega);have z:=P.at (t:=1) d;have q2:=P.at (t:=2) D;have q6:=P.at (t:=6) T;have q7:=P.at (t:=7) y;have⟨d,D⟩:=R.hF;have y:=g.get N D (λe=>by have:=f u e;have:=R.lF;omega);have g:=S.w.at (i:=0) rfl;have P:=g.P.len;simp at A y P;have E:O.l=cz bw:=by have⟨a,t,e,_⟩:=id R.hO;simp[nI] at e;exact e.2.1
 unfold mC;by_cases bg:j<cz y0.ps
 .have wj:=ch ((j:Int)+1) ab ab;have⟨q,N⟩:=aQ y0.ps j bg;have⟨o,t⟩:=aQ H j;have u:=(H' j q o N t).2 (fq _);subst u;have D:M.bz[j]?=Z o.1:=by rw[<-BR];simp[YB.g,N]
  have u:=R.E.rows k M b o.1 (cO D);have T:=mP bs k;have⟨d,cP,oP,b,jk,zk,D,dD,f,eQ⟩:=g.P.el t;have D:=f 0 2 ag;simp[-ax] at D;have M:=g.ps o (cO t);obtain⟨u,f,f,f,T,b,u⟩:=(R.hO.cm R.ok g0).read (Nw U);have T:=u 0 1 ag;simp[-ax] at T f;simp at z;rw[f.1,E] at z;rw[jk,P,F] at A;have u:=(cY.mp U).1;have oX:=I.cg A;have U:=I.cg y;have g:=I.cg zk;simp[z,q2,q6,q7,q8,A,y,aB A,aB y,bg,u,D,T,oX,U,g,b,aI,aC,-ax];have w:=bk I;have T:=S.cm w;have Zw:=w.get I A;have aBc:=w.get I zk;have D:(tick s).aw=s.aw:=Q;generalize tick s=b at*;have u:=g0.trans w;refine bS.call (V:=λv s=>ay aR b s/\∃L:SV,v=L.v/\bm iF b.aw s L.v (iw bs k o.1.row)) (by simpa [aC] using FV w.ok (name:=name) (p:=p) (r:=r) (dst:=o.1.dst) (R.hB.mono R.ok u) (M.cm I w).awJ ab (λx D=>av (R.E.two D)) k ab) ?_;rintro _ y⟨g,L,rfl,T⟩;simp;have M:cz (iw bs k o.1.row)<1000000:=by unfold iw;rw[tV];omega
  refine aab (O:=O) (E:=L) (xs:=nI bw) g.ok (R.hO.cm R.ok (u.trans g)) T.sl (by simp[nI];have:=R.ol;omega) M (by simp[z,f.1,E]) J (by simp[cM]) J ?_;intro T u D y p10 D xZ;have U:bY T 1=O.v:=y.at (by simp[z,f.1,E]);have z:bU T 7 X:=y.at (ak q7);have k8:bY T 8=fc ft j:=y.at (ak q8);have T:=g.trans D;have f:=T.get w.ok Zw;have akU:=T.get w.ok aBc;have T:cz (fS (aV (nI bw)) (iw bs k o.1.row))<1000000:=F1 (Wk _ _) M;simp at U;rw[E] at U;have E:=D.ok.cg f;have Up:=D.ok.st _ _ _ _ _ f;simp[U,z,k8,p10,f,aB f,E,aI,-ax];have z:=bk D.ok;have jQ:=z.get D.ok f;have M:=z.get D.ok akU;have E:=xZ.grow D.ok z ai;have U:(tick u).aw=u.aw:=Q;have f:(tick u).clock=u.clock+1:=Q;generalize tick u=h5 at*;refine bS.call (V:=λv s=>ay aR h5 s/\∃L:SV,v=L.v/\bm cZ h5.aw s L.v (iP (fS (aV (nI bw)) (iw bs k o.1.row)) (cz bw))) (aj (Jt z.ok E.sl T (cz bw) R.ol)) ?_;rintro _ h6⟨T,U,rfl,E⟩;have f:=T.get z.ok jQ;have u:=T.get z.ok M;have M:=dD 1 1 ag;simp at M;simp[f,Up,bg,u,M,k8,wj];have M:=bc (off:=j*2+1) (vs:=[U.v]) T.ok u;simp at M;have u:=eQ (pd (aV (nI bw)) (cz bw) (aN bs k) o.1,U) 1 [U.v] J (by simp[aX,pd]) (put h6 d (j*2+1) cP [U.v] oP) ⟨_,aZ _ _ _ _ _ _⟩;simp at u;have nXP:X≠d:=λe=>by have:=S.w.tQ K (Z (0,.P)) X rfl (by rw[e];exact cD jk);cases this
  have X:=M.get T.ok f nXP;have f:=(((w.trans g).trans D).trans z).trans T;have l6:=(((w.trans g).trans D).trans z).aw;have g:=S.row (j:=j) hn (i:=0) rfl t (p':=(pd (aV (nI bw)) (cz bw) (aN bs k) o.1,U)) (f.cm.trans (M.cU λc _ e=>jZ ⟨.P,jZ Q,by rw[e];exact cD jk⟩)) u ((eO E).go T.ok M λc hc e=>by have:=E.of (nM (eO E) e);have:=I.wf _ _ zk;omega) (λc e=>kd (av (E.of (nM (eO E) e))))
  generalize put h6 d _ _ _ _=h7 at*;refine⟨cz y0.ps-(j+1),ab,j+1,H.set j (pd (aV (nI bw)) (cz bw) (aN bs k) o.1,U),Q,bg,?_,J,⟨Yj,by have M:y0.P.a=Z ⟨d,0,K⟩:=jk;have d:y0.P.l=cz y0.ps:=P.trans F;simpa [M,d] using X⟩,g,au F,λi a c h1 b=>?_⟩
  .repeat (refine aG.set ?_)
   refine aG.trans ?_ (y.cU)
   exact aq
  rw[fO] at b;by_cases e:j=i;subst e;rw[bK Q,bK ab] at b;cases b;rw[N] at h1;cases h1;exact⟨λ_=>rfl,λh=>ab⟩;rw[bM e] at b;have⟨M,g⟩:=H' i a c h1 b;exact⟨λh=>M ab,λh=>g ab⟩
 .have:j=cz y0.ps:=ab
  subst this;rw[P,F] at A;simp[q7,q8,A,aB A,-ax];refine C _ _ H ?_ ⟨Yj,by have d:y0.P.l=cz y0.ps:=P.trans F;simpa [d] using A⟩ S (BT λi=>?_)
  .exact aq
  rw[<-BR,gM,gM];simp only[YB.g,gM];rcases Kz i (cz y0.ps) with X|X;have⟨q,N⟩:=aQ y0.ps i X;have⟨o,t⟩:=aQ H i (by rw[F];exact X);rw[N,t];simp only[Eo];rw[(H' i q o N t).1 X];rw[xU X,xU (by rw[F];exact X)];rfl
def aza(h1:az)(n0 X:Nat)(y0:YB)(f:Int->Int)(e:Env)(m:Nat)(a:Env)(s:az):Prop:=
 ∃(j:Nat) (to:List Int),m=cz y0.to-j/\j<=cz y0.to/\aG ([13]++(aU 21).map (· +88)) e a/\bC a 13 j/\(di s X (eF.enc y0))/\cV h1 s n0 (zS X) [y0] (zS X) [{y0 with to:=to}]/\to=(y0.to.take j).map f++y0.to.drop j
def Tk{n0 X:Nat}(M:cu h0)(z:ay aR h0 h1)(E:h0.aw<=n0)(hn:n0<=h1.aw)(b:bp encI h0 O.v xs)(yP:cz xs<1000000)(P:cz y0.to<1000000)(W:FZ h1 n0 (zS X) [y0])(U:eR h1 X (eF.enc y0) G)(h:bY e 1=O.v)(u:bU e 7 X)(N:bC e 13 0)(C:∀k s,aG ([13]++(aU 21).map (· +88)) e k->(di s X (eF.enc y0))->cV h1 s n0 (zS X) [y0] (zS X) [{y0 with to:=y0.to.map (aV xs)}]->V (.exit 6) k s):aK FF (.loop mA) e h1 V:=by
 have x:=z.ok;refine aK.loop (aza h1 n0 X y0 (aV xs) e) ?_ (n:=cz y0.to) ⟨0,y0.to,Q,ab,aG.refl _ _,N,⟨G,U⟩,.refl W x,J⟩;rintro m k s⟨j,to,rfl,g,P,E,⟨F,o⟩,T,d⟩;have g:=T.g;have H:=g.ok;have f:∀c,cK (zS X) [y0] c->n0<=c:=λc ⟨l,e⟩=>W.new l c e;have g0:ay aR h0 s:=z.trans' g ai (λc q e=>av (f c e));have z:=P.at (t:=1) h;have x:=P.at (t:=7) u;have p:=T.w.at (i:=0) rfl;have L:y0.T.l=cz to:=p.T.len;have w:cz to=cz y0.to:=by rw[d];simp;omega
 simp at o;have N:O.l=cz xs:=by have⟨a,S,e,_⟩:=id b;simp at e;exact e.2.1
 unfold mA;by_cases D:j<cz y0.to
 .have S:=ch ((j:Int)+1) ab ab;have⟨t,B⟩:=aQ y0.to j D;have h:to[j]?=Z t:=by rw[d,OC (by simp;omega)];simp[lE (qj D),B]
  obtain⟨P,cT,f,r,g,A,n,r,q,U⟩:=p.T.el h;have i:y0.T.a=Z ⟨P,0,K⟩:=g;have u:=q 0 1 ag;simp[-ax] at u;rw[i,L,w] at o;have h:=H.cg o;have y:=H.cg A;have q:=H.st _ _ _ _ _ o;have p:=H.st _ _ _ _ _ A;simp at z;rw[N] at z;simp[z,x,E,o,aB o,D,u,h,y,aI,-ax];have I:=bk H;have p:=T.cm I;have k:=I.get H o;have p:=I.get H A;have n:(tick s).clock=s.clock+1:=Q;generalize tick s=h2 at*;refine bS.call (V:=λv n=>n=h2/\v=fc ft (aV xs t)) (by simpa [N] using xB (b.cm M (g0.trans I)) yP t) ?_;rintro _ n⟨h,rfl⟩;rw[h];have H:=r 0 1 ag;simp at H;simp[k,q,D,p,H,E,S];have n:=bc (off:=j) (vs:=[fc ft (aV xs t)]) I.ok p;have q:=U (aV xs t) 0 [fc ft (aV xs t)] J (by simp[aX]) (put h2 P j cT [fc ft (aV xs t)] f) ⟨h2.clock,J⟩;have r:X≠P:=λe=>by have:=T.w.tQ K (Z (0,.T)) X rfl (by rw[e];exact cD g);cases this
  have u:=n.get I.ok k r;have b:=T.to (to':=to.set j (aV xs t)) hn (i:=0) rfl (I.cm.trans (n.cU λc _ e=>jZ ⟨.T,Q,by rw[e];exact cD g⟩)) q;generalize put h2 P _ _ _ _=h7 at*;refine⟨cz y0.to-(j+1),ab,j+1,to.set j (aV xs t),Q,D,?_,J,⟨F,by have k:y0.T.l=cz y0.to:=L.trans w;simpa [i,k] using u⟩,b,?_⟩
  .exact aq
  rw[d,kh,B];rw[y6 _ _ (by simp;omega)];simp[lE (qj D)];rw[et D,r6]
 .have:j=cz y0.to:=ab
  subst this;rw[mO,bE,Bx] at d;rw[L,w] at o;simp[x,E,o,aB o,-ax];refine C _ _ ?_ ⟨F,by have k:y0.T.l=cz y0.to:=L.trans w;simpa [k] using o⟩ (by rw[<-d];exact T)
  exact aq
def anV{X s:Nat}(I:eR h X (eF.enc y) s)(z:BZ h y)(G:kF False y.loc)(D:∀l c,y.loc l=Z c->X<c):FZ h X (zS X) [y]/\xS (zS X) [y]:=by
 have b:∀(o:Option (Nat×Lo))(c:Nat),dV (zS X) [y] o=Z c->(o=K/\c=X)\/∃l,o=Z (0,l)/\y.loc l=Z c:=λo c e=>by
  match o with
  |none=>exact jZ ⟨Q,by cases e;rfl⟩
  |some (i,l)=>
   have⟨q,h1,w⟩:=JT.1 e;have:i=0:=by have:=(cY.mp h1).1;simpa using this
   subst this;cases h1;exact kd ⟨l,Q,w⟩
 have d:xS (zS X) [y]:=λa X c h1 w=>by rcases b a c h1 with⟨p,A⟩|⟨l,p,A⟩<;>rcases b X c w with⟨q,C⟩|⟨k,q,C⟩;exact jZ (p.trans q.symm);have:=D k c C;omega;have:=D l c A;omega;exact(G l k c A C).imp (λe=>by rw[p,q,e]) λe=>e.1.elim
 refine⟨⟨akq I,λx f=>by cases bl.1 f;exact z,λa X c h1 w=>(d a X c h1 w).imp id λe=>e.1.elim,λo c e=>?_⟩,d⟩;rcases b o c e with⟨_,p⟩|⟨l,_,p⟩;omega;have:=D l c p;omega
def azc(h1:az)(F R G:Nat)(O:SV)(name:ByteArray)(p r:Int)(bs:List GB)(bw:List Nat)(m:Nat)(e:Env)(s:az):Prop:=
 ∃(n:Nat) (a:SV) (ys:List YB),m=cz bw-n/\n<=cz bw/\bY e 1=O.v/\bU e 2 F/\bU e 4 R/\bU e 5 G/\bC e 6 n/\ay (· =G) h1 s/\(di s G (aC name p r a))/\bm eF h1.aw s a.v ys/\FZ s h1.aw a ys/\xS a ys/\ys.map YB.g=(bu bs bw).take n
def ahR{x:GB}(c:bw[n]?=Z k)(o:bs[k]?=Z x):(bu bs bw)[n]?=Z (eW (aV (nI bw)) (cz bw) (aN bs k) x):=by unfold bu;rw[gM,c];simp only[Eo];rw[o];rfl
def Wl(A:cu h0)(gT:cu h1){F R G:Nat}(g0a:∀ {s:az},ay (· =G) h1 s->ay aR h0 s)(hB:qP h0 B bs)(E:EB bs)(ZH:∀q∈bs,Kr q)(M:bp encI h0 O.v (nI bw))(ol:cz bw<100000)(olt:∀k∈bw,k<cz bs){sF sG:Nat}(lG:G<h1.aw)(hF:eR h1 F (aC name p r B) sF)(nFG:F≠G)(hG:eR h1 G (aC name p r cM) sG)(l01:h0.aw<=h1.aw)(f1:bY e 1=O.v)(f2:bU e 2 F)(f4:bU e 4 R)(f5:bU e 5 G)(f6:bC e 6 0)(C:∀e' s B' ys,bU e' 4 R->bU e' 5 G->ay (· =G) h1 s->(di s G (aC name p r B'))->FZ s h1.aw B' ys->xS B' ys->ys.map YB.g=bu bs bw->V (.exit 0) e' s):aK FF (.loop mD) e h1 V:=by
 have eo:=ad.len hB;have S:O.l=cz bw:=by have⟨a,d,e,_⟩:=id M;simp[nI] at e;exact e.2.1
 have F0:=FZ.zero (h:=h1) (fq h1.aw);have kl:cz (bu bs bw)=cz bw:=by simp[bu]
 refine aK.loop (azc h1 F R G O name p r bs bw) ?_ (n:=cz bw) ⟨0,cM,[],Q,ab,f1,f2,f4,f5,f6,.refl gT,⟨sG,hG⟩,jZ ⟨Q,Q⟩,F0.1,F0.2,Q⟩;rintro m e' s⟨n,B2,ys,rfl,hn,d,q2,q4,q5,P,j,⟨sG2,Y'⟩,J',W,xi,U⟩;have w:=j.ok;have u:ay aR h0 s:=g0a j;have jg:=j.get gT hF nFG;have x:=jg;have hG3:=Y';simp[aC] at x hG3;unfold mD;by_cases UG:n<cz bw
 .have wn:=ch ((n:Int)+1) ab ab;have⟨k,N⟩:=aQ bw n UG;have qm:=olt k (cO N);have⟨q,L⟩:=aQ bs k qm;have z:=ZH q (cO L);obtain⟨bB,Sg,cB,fD,_,_,⟨P0,L0,T0,rfl,sP,sL,sT⟩,oB,hrdB⟩:=ad.later A hB L;have rd:=hrdB s u 0 6 ag;simp[-ax] at rd;have⟨bO,ap7,anX,X5,lO,oO,hrO⟩:=(M.cm A u).read (Nw N);have rO:=hrO 0 1 ag;simp[-ax] at rO X5;simp at d;rw[X5.1,S] at d;rw[fD,eo] at x;have oF:=w.cg x;have OO:=u.cg oB;have ln:=j.aw;simp[d,q2,q4,q5,P,x,aB x,UG,qm,rO,rd,oF,OO,oO,aI,bj,-ax];have gt:=(bk w).trans (aO (bk w).ok [dB K 0 0,dB K 0 0,fc ft 0,dC cd,fc ft 0,dB K 0 0] 0);have Zw:=bX (tick s) [dB K 0 0,dB K 0 0,fc ft 0,dC cd,fc ft 0,dB K 0 0] 0;have nt:(aJ (tick s) [dB K 0 0,dB K 0 0,fc ft 0,dC cd,fc ft 0,dB K 0 0] 0).aw=s.aw+1:=Q;have ntk:(tick s).aw=s.aw:=Q;rw[ntk] at Zw;generalize aJ (tick s) _ 0=h2 at*;refine bS.call (V:=RBZ q h2) (by simpa [du] using HZ A (u.trans gt) (P0:=P0) (L0:=L0) (T0:=T0) ⟨sP,sL,sT,z.lp,z.ll,z.lr,z.la,z.lt⟩) ?_;rintro _ h3⟨H,y,rfl,Y3,yg,iy,ny⟩;have dK:=H.get gt.ok Zw;simp[dK];have g4:=bc (off:=0) (vs:=eF.enc y) H.ok dK;have iI:(put h3 s.aw 0 [dB K 0 0,dB K 0 0,fc ft 0,dC cd,fc ft 0,dB K 0 0] (eF.enc y) 0).tr.get s.aw=Z (.bZ (eF.enc y) cd 0 h3.clock):=by rw[aZ];rfl
  simp only[Hr,SV.AA] at g4 iI;have l3:=H.aw;have lyX:∀l c,y.loc l=Z c->s.aw<c:=λl c e=>av (ny l c e)
  have Y4:=Y3.go H.ok g4 (λc l e h=>av (lyX l c h));generalize hh4:put h3 s.aw 0 _ _ 0=h4 at*;have I:ay aR s h4:=(gt.trans H).trans' g4 ai (λc D e=>ab);have l4:=g4.aw;have⟨W4,x4⟩:=anV (aj iI) Y4 iy lyX;have hlf:F<s.aw:=w.wf _ _ jg;have hlG:G<s.aw:=w.wf _ _ Y';have HA:=I.get w jg;have KR:KR1 h0 h4 s.aw F s.aw name p r B O bs bw:=⟨u.trans I,A,hB,E,M,ol,⟨sF,HA⟩,hlf,ab,fq _⟩;refine aac KR ab N L yg W4 (aj iI) (by simp[d,X5.1,S]) (au q2) (au P) J J ?_;intro e5 h5 ps5 v ⟨s5,jQ⟩ T5 M5;have a1:bY e5 1=O.v:=v.at (by simp[d,X5.1,S]);have a2:=v.at (t:=2) (ak q2);have a4:=v.at (t:=4) (ak q4);have a5:=v.at (t:=5) (ak q5);have a6:=v.at (t:=6) (ak P);have a7:bU e5 7 s.aw:=v.at J;simp;have own:∀c,cK (zS s.aw) [y] c->s.aw<=c:=λc ⟨l,e⟩=>W4.new l c e;have Hy:ay aR s h5:=I.trans' T5.g ai (λc D e=>av (own c e));have etl:y.to=q.to:=by rw[<-yg];rfl
  have tl:cz y.to<1000000:=by rw[etl];have:=z.lt;omega
  refine Tk (y0:= {y with ps:=ps5}) A (u.trans Hy) (n0:=s.aw) (X:=s.aw) ab Hy.aw M (by simp[nI];omega) tl T5.w jQ (au a1) (au a7) J ?_;intro e6 b t ⟨s6,nz⟩ T6;have b1:=t.at (t:=1) (ak a1);have b2:=t.at (t:=2) (ak a2);have b4:=t.at (t:=4) (ak a4);have b5:=t.at (t:=5) (ak a5);have b6:=t.at (t:=6) (ak a6);have b7:=t.at (t:=7) (ak a7);have T46:=T5.trans T6;have f:ay aR s b:=I.trans' T46.g ai (λc D e=>av (own c e));have hG6:=f.get w hG3;simp at nz;simp[b5,b7,hG6,nz];have⟨o,hy3⟩:∃o:YB,o= {y with ps:=ps5,to:=y.to.map (aV (nI bw))} :=⟨_,Q⟩;have e3:eF.enc o=eF.enc y:=by rw[hy3];rfl
  have T3:cV h4 b s.aw (zS s.aw) [y] (zS s.aw) [o]:=by rw[hy3];exact T46
  have g3':o.g=eW (aV (nI bw)) (cz bw) (aN bs k) q:=by rw[hy3];simp only[YB.g,eW,M5];rw[<-yg];rfl
  have i:=aO f.ok (eF.enc o) 0;have Zh:=f.trans i;have RH:=J'.grow w Zh ai;have Ad:bp eF (aJ b (eF.enc o) 0) (dB (Z ⟨b.aw,0,K⟩) 1 1) [o]:=dq (bX _ _ _);have n2:(aJ b (eF.enc o) 0).aw=b.aw+1:=Q;have l6:=f.aw;have vI:cz ys=n:=by have:=congrArg bW U;simp at this;omega
  have⟨v',h8,hb8,T,g,hd8⟩:=fg (bytes:=96) i.ok (z:=[dB K 0 0,dB K 0 0,fc ft 0,dC cd,fc ft 0,dB K 0 0]) rfl RH Ad ab ag ab;obtain⟨B8,rfl⟩:=bm.E5 T;rw[e3] at hb8;refine dh (aj hb8) ?_;have nBG:¬bx B2.v G:=λe=>av (J'.of e)
  have hG8:=g.get i.ok (i.get f.ok hG6) nBG;simp[hG8,b5,b6,wn];have X:=bc (off:=3) (vs:=[B8.v]) g.ok hG8;simp at X;have Z6:=T3.w.at (i:=0) rfl;have nl:∀l c,o.loc l=Z c->s.aw<=c/\c<b.aw:=λl c e=>⟨(T3.s c ⟨Z (0,l),e⟩).elim (own c) ab,Z6.lt f.ok e⟩;have Z8:=(Z6.cm f.ok i).go i.ok g (λc l D e=>by have:=nl l c e;have:=(eO J').lt w (dI (A:=B2) D);omega);have P5:=W.push xi (m:=b.aw) w (Zh.cm.trans g) (λc D=>jZ (dI D)) ln (eO T) Z8 ((T3.x x4).r (i:=0) Q) nl (λc e=>av (hd8 c (nM (eO T) e)));refine⟨cz bw-(n+1),ab,n+1,B8,ys++[o],Q,UG,au b1,au b2,au b4,au b5,J,((j.trans Zh.cm).trans' g ai (λc D e=>av (J'.of e))).trans X,⟨h8.clock,by rw[aZ];rfl⟩,T.grow g.ok X (λc D e=>av (hd8 c D)),P5.1.go g.ok X (λc l e hl=>av (P5.1.new l c hl)),P5.2,by rw[aL,U,kh,ahR N L,<-g3'];rfl⟩
 .have:n=cz bw:=ab
  subst this;rw[tK ab] at U;simp at d;rw[S] at d;simp[d,P];exact C _ _ B2 ys (au q4) (au q5) j ⟨sG2,Y'⟩ W xi U
def Gq(T:cu h0)(g:ay aR h0 h){name:ByteArray}{p r:Int}(H:qP h0 B bs)(E:EB bs)(z:∀b∈bs,Kr b)(i:bp encI h0 O.v (nI bw))(N:cz bw<100000)(C:∀k∈bw,k<cz bs):aY FF 38 [ix ⟨aC name p r B⟩,O.v] h (lD name p r (bu bs bw) h):=by
 have M:=g.ok;have D:¬h.aw=h.aw+1:=ab
 have I:¬h.aw=h.aw+1+1:=ab
 have A:¬h.aw+1=h.aw+1+1:=ab
 refine aY.of Ft ?_;unfold wI;simp[aC,D,I,A,aX];refine aK.cut (λh1=>ay aR h h1/\(di h1 h.aw (aC name p r B))/\(di h1 (h.aw+1) [gX ⟨⟨[]⟩⟩,fc ft 0,fc ft 0,dB K 0 0])/\(di h1 (h.aw+1+1) (aC name p r cM))/\h.aw+3<=h1.aw) ?_ ?_;refine⟨(((ay.refl M).new _ _).new _ _).var _ _,⟨0,by simp[D,I,A,aC]⟩,⟨0,by simp[D,I,A]⟩,⟨h.clock,by simp[aX,aC,cM]⟩,J⟩;rintro h1⟨w,⟨u,M⟩,⟨a,S⟩,⟨G,X⟩,P⟩;have U:=g.aw;refine Wl T w.ok (F:=h.aw) (R:=h.aw+1) (G:=h.aw+1+1) (λf=>(g.trans w).trans' f ai (λc W e=>ab)) H E z i N C ab M ab X ab J J J J J ?_;intro m t V ys s f o ⟨X,y⟩ F xi mp;have a:=o.get w.ok S ab;simp[aC] at y;simp[s,f,y,a];have v:=bc (off:=0) (vs:=[gX name,fc ft p,fc ft r,V.v]) o.ok a;simp at v;exact⟨(w.trans' o ai (λc W e=>ab)).trans' v ai (λc W e=>ab),V,ys,by simp[aC],(F.go o.ok v (λc l e U=>av (F.new l c U))).cU ab,xi,mp⟩
structure RN(h0 h1:az)(n0:Nat)(B:SV)(ys:List YB)(L:SV)(xs:List Int)(i:Nat)(y:YB)(X:Nat):Prop where
 dv:cu h0
 g:ay aR h0 h1
 l0:h0.aw<=n0
 hn:n0<=h1.aw
 hL:bp encI h0 L.v xs
 xl:cz xs<1000000
 W:FZ h1 n0 B ys
 xi:xS B ys
 hy:ys[i]?=Z y
 hX:di h1 X (eF.enc y)
 oX:¬cK B ys X
section
variable{h0 h1 s:az}{n0:Nat}{B:SV}{ys d:List YB}{L:SV}{xs:List Int}{i:Nat}{y b:YB}{X:Nat}
def RN.g0(r:RN h0 h1 n0 B ys L xs i y X)(T:cV h1 s n0 B ys B d):ay aR h0 s:=r.g.trans' T.g ai (λc o ⟨l,e⟩=>by have:=r.W.new l c e;have:=r.l0;omega)
def RN.aw(r:RN h0 h1 n0 B ys L xs i y X)(T:cV h1 s n0 B ys B (ys.set i b))(e:eF.enc b=eF.enc y):RN h0 s n0 B (ys.set i b) L xs i b X:=by have⟨a,c⟩:=r.hX;have w:=r.g.ok.wf _ _ c;have o:=(cY.mp r.hy).1;exact⟨r.dv,r.g0 T,r.l0,by have:=r.hn;have:=T.g.aw;omega,r.hL,r.xl,T.w,T.x r.xi,by rw[fO,bK Q,bK o],⟨a,by rw[e];exact T.g.get r.g.ok c r.oX⟩,λh=>(T.s _ h).elim r.oX ab⟩
def azB(h1:az)(n0:Nat)(B:SV)(ys:List YB)(i j:Nat)(y:YB)(q:GP×SV)(f:Bool×Int->Bool×Int)(e:Env)(m:Nat)(a:Env)(s:az):Prop:=
 ∃(k:Nat) (row:List (Bool×Int)),m=cz q.1.row-k/\k<=cz q.1.row/\aG ([9]++(aU 30).map (· +46)) e a/\bC a 9 k/\cV h1 s n0 B ys B (ys.set i {y with ps:=y.ps.set j (⟨q.1.dst,row⟩,q.2)})/\row=(q.1.row.take k).map f++q.1.row.drop k
def nf{xs:List W}{x:W}(h:xs[i]?=Z x):xs.set i x=xs:=by have⟨c,e⟩:=cY.mp h;rw[<-e];exact List.set_getElem_self c
def Aj{f:W->W}{l row:List W}{v:W}(o:l[k]?=Z v)(e:row=(l.take k).map f++l.drop k):row[k]?=Z v/\row.set k (f v)=(l.take (k+1)).map f++l.drop (k+1):=by have c:=(cY.mp o).1;subst e;refine⟨by rw[OC (by simp;omega)];simp[lE (qj c),o],?_⟩;rw[kh,o,y6 _ _ (by simp;omega)];simp[lE (qj c)];rw[et c,r6]
def alZ(r:RN h0 h1 n0 B ys L xs i y X){q:GP×SV}(D:y.ps[j]?=Z q)(O:cz q.1.row<1000000)(O:bY e 1=L.v)(N:bU e 7 X)(f:bC e 8 j)(l:bC e 9 0)(C:∀p s,aG ([9]++(aU 30).map (· +46)) e p->cV h1 s n0 B ys B (ys.set i {y with ps:=y.ps.set j (⟨q.1.dst,q.1.row.map (bq xs)⟩,q.2)})->V (.exit 4) p s):aK FF (.loop jK) e h1 V:=by
 have z:=r.g.ok;have h:=(cY.mp r.hy).1;have g:=(cY.mp D).1;have b:L.l=cz xs:=by have⟨a,T,e,_⟩:=id r.hL;simp at e;exact e.2.1
 have T:y.ps.set j ((⟨q.1.dst,q.1.row⟩:GP),q.2)=y.ps:=nf (x:=q) D;have D:ys.set i {y with ps:=y.ps.set j ((⟨q.1.dst,q.1.row⟩:GP),q.2)} =ys:=by rw[T];exact nf r.hy
 refine aK.loop (azB h1 n0 B ys i j y q (bq xs) e) ?_ (n:=cz q.1.row) ⟨0,q.1.row,Q,ab,aG.refl _ _,l,by rw[D];exact .refl r.W z,J⟩;rintro m p s⟨k,row,rfl,p,D,p,T,l⟩;have o:=T.g.ok;have g0:=r.g0 T;have n:=D.at (t:=1) O;have O:=D.at (t:=7) N;have N:=D.at (t:=8) f;have⟨G,f⟩:=r.hX;have D:=T.g.get z f r.oX;have z:(ys.set i {y with ps:=y.ps.set j (⟨q.1.dst,row⟩,q.2)})[i]?=Z {y with ps:=y.ps.set j (⟨q.1.dst,row⟩,q.2)} :=by rw[fO,bK Q,bK h]
 have f:=T.w.at z;have W:(y.ps.set j ((⟨q.1.dst,row⟩:GP),q.2))[j]?=Z (⟨q.1.dst,row⟩,q.2):=by rw[fO,bK Q,bK g]
 have h:y.P.l=cz y.ps:=by have:=f.P.len;simpa using this
 have A:eM cZ s q.2 row:=f.ps _ (cO W);have jq:=A.len;have S:cz row=cz q.1.row:=by rw[l];simp;omega
 obtain⟨E,F,F,F,F,d,_,_,t,_⟩:=f.P.el W;have P:y.P.a=Z ⟨E,0,K⟩:=F;have c:=t 1 1 ag;simp[-ax] at c;simp at D;rw[P,h] at D;have oX:=o.cg D;have oP':=o.cg d;have Up:=o.st _ _ _ _ _ D;have stP:=o.st _ _ _ _ _ d;unfold jK;by_cases h:k<cz q.1.row
 .have wk:=ch ((k:Int)+1) ab ab;have⟨v,t⟩:=aQ q.1.row k h;have⟨P,MR⟩:=Aj (f:=bq xs) t l;obtain⟨t,U,M,H,H,x,UE,dD,hrA,eQ⟩:=A.el P;have P:=hrA 0 2 ag;simp[-ax] at P;rw[H,jq,S] at c;have oA':=o.cg x;simp at n;rw[b] at n;simp[n,O,N,p,D,aB D,g,h,c,P,oX,oP',oA',aI,-ax];have w:=bk o;have P:=T.cm w;have P:=w.get o D;have hPt:=w.get o d;have hAt:=w.get o x;have d:(tick s).clock=s.clock+1:=Q;generalize tick s=h2 at*;refine bS.call (V:=λu d=>ay aR h2 d/\u=ix ⟨[dC (bq xs v).1,fc ft (bq xs v).2]⟩) (by simpa [b] using xv w.ok (r.hL.cm r.dv (g0.trans w)) r.xl v) ?_;rintro _ d⟨b,rfl⟩;have dK:=b.get w.ok P;have VC:=b.get w.ok hPt;have P:=b.get w.ok hAt;have x:=dD 0 2 ag;simp at x;simp[dK,VC,Up,stP,g,h,P,x,p,wk];have x:=bc (off:=k*2) (vs:=cZ.enc (bq xs v)) b.ok P;have P:=eQ (bq xs v) 0 (cZ.enc (bq xs v)) J (by simp[aX]) (put d t (k*2) U (cZ.enc (bq xs v)) M) ⟨d.clock,J⟩;have eAP:t≠E:=λe=>by have:=(T.w.KO z .P (.R j) E (cD F) (by rw[YB.jr W,<-e];exact cD H));cases this
  simp only[Cz] at x P;have I:=w.trans b;have E:eM jf (put d t (k*2) U [dC (bq xs v).1,fc ft (bq xs v).2] M) y.P ((y.ps.set j ((⟨q.1.dst,row⟩:GP),q.2)).set j (⟨q.1.dst,row.set k (bq xs v)⟩,q.2)):=((f.P.cm o I).go b.ok x λb f e=>by rw[cD F] at e;cases e;exact eAP f.symm).YS (by rw[xh,cL,cL];rfl)
  have F:=T.row (j:=j) r.hn z W (p':=((⟨q.1.dst,row.set k (bq xs v)⟩:GP),q.2)) (I.cm.trans (x.cU λb _ e=>jZ ⟨.R j,kd Q,by rw[YB.jr W,e];exact cD H⟩)) E P (λb e=>jZ e);rw[xh,xh] at F;refine⟨cz q.1.row-(k+1),ab,k+1,row.set k (bq xs v),Q,h,?_,J,F,MR⟩
  exact aq
 .have:k=cz q.1.row:=ab
  subst this;rw[mO,bE,Bx] at l;rw[jq,S] at c;simp[n,O,N,p,D,aB D,g,c,-ax];refine C _ _ ?_ (by rw[<-l];exact T)
  exact aq
end
section
variable{h0 h1 s:az}{n0:Nat}{B:SV}{ys b:List YB}{L:SV}{xs:List Int}{i:Nat}{y c:YB}{X:Nat}
def azA(h1:az)(n0:Nat)(B:SV)(ys:List YB)(i j:Nat)(y:YB)(q:GI×SV)(f:Bool×Int->Bool×Int)(e:Env)(m:Nat)(a:Env)(s:az):Prop:=
 ∃(k:Nat) (row:List (Bool×Int)),m=cz q.1.args-k/\k<=cz q.1.args/\aG ([11]++(aU 30).map (· +109)) e a/\bC a 11 k/\cV h1 s n0 B ys B (ys.set i { y with ls:=y.ls.set j ({q.1 with args:=row},q.2) })/\row=(q.1.args.take k).map f++q.1.args.drop k
def aiH(r:RN h0 h1 n0 B ys L xs i y X)(D:y.ls[j]?=Z q)(P:cz q.1.args<1000000)(P:bY e 1=L.v)(O:bU e 7 X)(g:bC e 10 j)(n:bC e 11 0)(C:∀t s,aG ([11]++(aU 30).map (· +109)) e t->cV h1 s n0 B ys B (ys.set i { y with ls:=y.ls.set j ({q.1 with args:=q.1.args.map (bq xs)},q.2) })->V (.exit 8) t s):aK FF (.loop jI) e h1 V:=by
 have E:=r.g.ok;have l:=(cY.mp r.hy).1;have h:=(cY.mp D).1;have b:L.l=cz xs:=by have⟨a,T,e,_⟩:=id r.hL;simp at e;exact e.2.1
 have T:y.ls.set j (({q.1 with args:=q.1.args} :GI),q.2)=y.ls:=nf (x:=q) D;have D:ys.set i { y with ls:=y.ls.set j (({q.1 with args:=q.1.args} :GI),q.2) } =ys:=by rw[T];exact nf r.hy
 refine aK.loop (azA h1 n0 B ys i j y q (bq xs) e) ?_ (n:=cz q.1.args) ⟨0,q.1.args,Q,ab,aG.refl _ _,n,by rw[D];exact .refl r.W E,J⟩;rintro m t s⟨k,row,rfl,t,D,t,T,n⟩;have o:=T.g.ok;have g0:=r.g0 T;have p:=D.at (t:=1) P;have P:=D.at (t:=7) O;have O:=D.at (t:=10) g;have⟨G,g⟩:=r.hX;have D:=T.g.get E g r.oX;have E:(ys.set i { y with ls:=y.ls.set j ({q.1 with args:=row},q.2) })[i]?=Z { y with ls:=y.ls.set j ({q.1 with args:=row},q.2) } :=by rw[fO,bK Q,bK l]
 have g:=T.w.at E;have W:(y.ls.set j (({q.1 with args:=row} :GI),q.2))[j]?=Z ({q.1 with args:=row},q.2):=by rw[fO,bK Q,bK h]
 have l:y.L.l=cz y.ls:=by have:=g.L.len;simpa using this
 have A:eM cZ s q.2 row:=g.ls _ (cO W);have jq:=A.len;have U:cz row=cz q.1.args:=by rw[n];simp;omega
 obtain⟨F,H,H,H,H,f,_,_,x,_⟩:=g.L.el W;have S:y.L.a=Z ⟨F,0,K⟩:=H;have d:=x 7 1 ag;simp[-ax] at d;simp at D;rw[S,l] at D;have oX:=o.cg D;have oP':=o.cg f;have Up:=o.st _ _ _ _ _ D;have stP:=o.st _ _ _ _ _ f;unfold jI;by_cases l:k<cz q.1.args
 .have wk:=ch ((k:Int)+1) ab ab;have⟨v,x⟩:=aQ q.1.args k l;have⟨S,MR⟩:=Aj (f:=bq xs) x n;obtain⟨x,cA,N,M,M,z,UE,dD,hrA,eQ⟩:=A.el S;have S:=hrA 0 2 ag;simp[-ax] at S;rw[M,jq,U] at d;have oA':=o.cg z;simp at p;rw[b] at p;simp[p,P,O,t,D,aB D,h,l,d,S,oX,oP',oA',aI,-ax];have w:=bk o;have S:=T.cm w;have S:=w.get o D;have hPt:=w.get o f;have hAt:=w.get o z;have f:(tick s).clock=s.clock+1:=Q;generalize tick s=h2 at*;refine bS.call (V:=λu f=>ay aR h2 f/\u=ix ⟨[dC (bq xs v).1,fc ft (bq xs v).2]⟩) (by simpa [b] using xv w.ok (r.hL.cm r.dv (g0.trans w)) r.xl v) ?_;rintro _ f⟨b,rfl⟩;have dK:=b.get w.ok S;have VC:=b.get w.ok hPt;have S:=b.get w.ok hAt;have z:=dD 0 2 ag;simp at z;simp[dK,VC,Up,stP,h,l,S,z,t,wk];have z:=bc (off:=k*2) (vs:=cZ.enc (bq xs v)) b.ok S;have S:=eQ (bq xs v) 0 (cZ.enc (bq xs v)) J (by simp[aX]) (put f x (k*2) cA (cZ.enc (bq xs v)) N) ⟨f.clock,J⟩;have eAP:x≠F:=λe=>by have:=(T.w.KO E .L (.X j) F (cD H) (by rw[YB.kY W,<-e];exact cD M));cases this
  simp only[Cz] at z S;have I:=w.trans b;have F:eM ia (put f x (k*2) cA [dC (bq xs v).1,fc ft (bq xs v).2] N) y.L ((y.ls.set j (({q.1 with args:=row} :GI),q.2)).set j ({q.1 with args:=row.set k (bq xs v)},q.2)):=((g.L.cm o I).go b.ok z λc b e=>by rw[cD H] at e;cases e;exact eAP b.symm).YS (by rw[xh,cL,cL];rfl)
  have H:=T.ins (j:=j) (T.x r.xi) r.hn E W (p':=(({q.1 with args:=row.set k (bq xs v)} :GI),q.2)) (I.cm.trans (z.cU λc _ e=>jZ ⟨.X j,kd Q,by rw[YB.kY W,e];exact cD M⟩)) F S (λc e=>jZ e);rw[xh,xh] at H;refine⟨cz q.1.args-(k+1),ab,k+1,row.set k (bq xs v),Q,l,?_,J,H,MR⟩
  exact aq
 .have:k=cz q.1.args:=ab
  subst this;rw[mO,bE,Bx] at n;rw[jq,U] at d;simp[p,P,O,t,D,aB D,h,d,-ax];refine C _ _ ?_ (by rw[<-n];exact T)
  exact aq
end
section
variable{h0 h1 s:az}{n0:Nat}{B:SV}{ys b:List YB}{L:SV}{xs:List Int}{i:Nat}{y c:YB}{X:Nat}
def RrP(h1:az)(n0:Nat)(B:SV)(ys:List YB)(xs:List Int)(i:Nat)(y:YB)(e:Env)(m:Nat)(a:Env)(s:az):Prop:=
 ∃(j:Nat) (c:List (GP×SV)),m=cz y.ps-j/\j<=cz y.ps/\aG ([8,9]++(aU 52).map (· +26)) e a/\bC a 8 j/\cV h1 s n0 B ys B (ys.set i {y with ps:=c})/\c=(y.ps.take j).map (λq=>(Eu xs q.1,q.2))++y.ps.drop j
def aeX(r:RN h0 h1 n0 B ys L xs i y X)(P:cz y.ps<1000000)(F:∀q∈y.ps,cz q.1.row<1000000)(h:bY e 1=L.v)(M:bU e 7 X)(E:bC e 8 0)(C:∀k s,aG ([8,9]++(aU 52).map (· +26)) e k->cV h1 s n0 B ys B (ys.set i {y with ps:=y.ps.map λq=>(Eu xs q.1,q.2)})->V (.exit 2) k s):aK FF (.loop jL) e h1 V:=by
 have x:=r.g.ok;have t:=(cY.mp r.hy).1;have O:L.l=cz xs:=by have⟨a,t,e,_⟩:=id r.hL;simp at e;exact e.2.1
 have T:ys.set i {y with ps:=y.ps} =ys:=nf r.hy;refine aK.loop (RrP h1 n0 B ys xs i y e) ?_ (n:=cz y.ps) ⟨0,y.ps,Q,ab,aG.refl _ _,E,by rw[T];exact .refl r.W x,J⟩;rintro m k s⟨j,H,rfl,g,P,d,T,l⟩;have A:=T.g.ok;have o:=r.aw T rfl;have z:=P.at (t:=1) h;have x:=P.at (t:=7) M;have⟨G,w⟩:=o.hX;have p:=o.W.at o.hy;have k:cz H=cz y.ps:=by rw[l];simp;omega
 have P:y.P.l=cz y.ps:=by have:=p.P.len;rw[<-k];exact this
 simp at w;rw[P] at w;unfold jL;by_cases b:j<cz y.ps
 .have E:=ch ((j:Int)+1) ab ab;have⟨q,N⟩:=aQ y.ps j b;have⟨W,M⟩:=Aj (f:=λq:GP×SV=>(Eu xs q.1,q.2)) N l;have⟨v,k,h,D,g,S,_,P,n,U⟩:=p.P.el W;have t:y.P.a=Z ⟨v,0,K⟩:=g;have f:=n 0 1 ag;simp[-ax] at f;rw[t] at w;have D:=A.cg w;have t:=A.cg S;have Up:=A.st _ _ _ _ _ w;simp at z;rw[O] at z;simp[z,x,d,w,aB w,b,f,D,t,aI,-ax];have D:=bk A;have f:=D.get A w;have I:=D.get A S;have n:(tick s).clock=s.clock+1:=Q;generalize tick s=h2 at*;refine bS.call (V:=λu n=>n=h2/\u=fc ft (aV xs q.1.dst)) (by simpa [O] using xB (r.hL.cm r.dv (o.g.trans D)) r.xl q.1.dst) ?_;rintro _ n⟨n,rfl⟩;rw[n];have t:=P 0 1 ag;simp at t;simp[f,Up,b,I,t];have n:=bc (off:=j*2) (vs:=[fc ft (aV xs q.1.dst)]) D.ok I;have S:=U ((⟨aV xs q.1.dst,q.1.row⟩:GP),q.2) 0 [fc ft (aV xs q.1.dst)] J (by simp[aX]) (put h2 v (j*2) k [fc ft (aV xs q.1.dst)] h) ⟨h2.clock,J⟩;have P:=((p.ps q (cO W)).cm A D).go D.ok n (λc h e=>by have:=o.W.KO o.hy .P (.R j) c (by rw[h];exact cD g) (by rw[YB.jr W];exact e);cases this)
  have U:=(cV.refl o.W A).row (j:=j) o.hn o.hy W (p':=((⟨aV xs q.1.dst,q.1.row⟩:GP),q.2)) (D.cm.trans (n.cU λc _ e=>jZ ⟨.P,jZ Q,by rw[e];exact cD g⟩)) S P (λc e=>jZ e);generalize put h2 v _ _ _ _=h7 at*;have n:=o.aw U rfl;have f:(H.set j ((⟨aV xs q.1.dst,q.1.row⟩:GP),q.2))[j]?=Z (⟨aV xs q.1.dst,q.1.row⟩,q.2):=by rw[fO,bK Q,bK ab]
  refine alZ n f (F q (cO N)) (by simp[z,O]) (au x) (au d) J ?_;intro n F P t;have k:bY n 8=fc ft j:=P.at (ak d);simp[k,E];have z:=T.trans (U.trans t);rw[xh,xh,xh] at z;refine⟨cz y.ps-(j+1),ab,j+1,H.set j (Eu xs q.1,q.2),Q,b,?_,J,z,M⟩
  repeat (refine aG.set ?_)
  refine aG.trans ?_ (P.cU)
  exact aq
 .have:j=cz y.ps:=ab
  subst this;rw[mO,bE,Bx] at l;simp[x,d,w,aB w,-ax];refine C _ _ ?_ (by rw[<-l];exact T)
  exact aq
end
section
variable{h0 h1 s:az}{n0:Nat}{B:SV}{ys b:List YB}{L:SV}{xs:List Int}{i:Nat}{y c:YB}{X:Nat}
def RN.put(r:RN h0 h1 n0 B ys L xs i y X)(o:y.ls[j]?=Z q){x':GI}(A:x'.args=q.1.args){b:Nat}(w:y.L.a=Z ⟨b,0,K⟩)(g:ay (· =b) h1 s)(D:eM ia s y.L (y.ls.set j (x',q.2))):cV h1 s n0 B ys B (ys.set i {y with ls:=y.ls.set j (x',q.2)}):=by have a:=r.W.at r.hy;refine(cV.refl r.W r.g.ok).ins (j:=j) r.xi r.hn r.hy o (p':=(x',q.2)) (g.cU λc _ e=>jZ ⟨.L,jZ Q,by rw[e];exact cD w⟩) D ?_ (λc e=>jZ e);rw[A];refine(a.ls q (cO o)).go r.g.ok g (λc C e=>?_);have:=r.W.KO r.hy .L (.X j) c (by rw[C];exact cD w) (by rw[YB.kY o];exact e);cases this
def RrL(h1:az)(n0:Nat)(B:SV)(ys:List YB)(xs:List Int)(i:Nat)(y:YB)(e:Env)(m:Nat)(a:Env)(s:az):Prop:=
 ∃(j:Nat) (c:List (GI×SV)),m=cz y.ls-j/\j<=cz y.ls/\aG ([10,11]++(aU 90).map (· +76)) e a/\bC a 10 j/\cV h1 s n0 B ys B (ys.set i {y with ls:=c})/\c=(y.ls.take j).map (λq=>(qL xs q.1,q.2))++y.ls.drop j
def aeW(r:RN h0 h1 n0 B ys L xs i y X)(tj:cz y.ls<1000000)(zI:∀q∈y.ls,cz q.1.args<1000000)(f1:bY e 1=L.v)(f7:bU e 7 X)(f8:bC e 10 0)(C:∀e' s,aG ([10,11]++(aU 90).map (· +76)) e e'->cV h1 s n0 B ys B (ys.set i {y with ls:=y.ls.map λq=>(qL xs q.1,q.2)})->V (.exit 6) e' s):aK FF (.loop jJ) e h1 V:=by
 have gT:=r.g.ok;have hi:=(cY.mp r.hy).1;have n:L.l=cz xs:=by have⟨a,F,e,_⟩:=id r.hL;simp at e;exact e.2.1
 have e2:ys.set i {y with ls:=y.ls} =ys:=nf r.hy;refine aK.loop (RrL h1 n0 B ys xs i y e) ?_ (n:=cz y.ls) ⟨0,y.ls,Q,ab,aG.refl _ _,f8,by rw[e2];exact .refl r.W gT,J⟩;rintro m e' s⟨j,o,rfl,hj,Kc,F,T',iV⟩;have x:=T'.g.ok;have W:=r.aw T' rfl;have D:=Kc.at (t:=1) f1;have H:=Kc.at (t:=7) f7;have⟨G,d⟩:=W.hX;have Y':=W.W.at W.hy;have yf:cz o=cz y.ls:=by rw[iV];simp;omega
 have fW:y.L.l=cz y.ls:=by have:=Y'.L.len;rw[<-yf];exact this
 simp at d;rw[fW] at d;unfold jJ;by_cases g:j<cz y.ls
 .have wj:=ch ((j:Int)+1) ab ab;have⟨q,hq⟩:=aQ y.ls j g;have⟨yM,MR⟩:=Aj (f:=λq:GI×SV=>(qL xs q.1,q.2)) hq iV;have⟨M,cP,oP,sP,jk,zk,_,dD,hrP,eQ⟩:=Y'.L.el yM;have P:y.L.a=Z ⟨M,0,K⟩:=jk;have rP:=hrP 2 2 ag;simp[-ax] at rP;rw[P] at d;have oX:=x.cg d;have oP':=x.cg zk;have Up:=x.st _ _ _ _ _ d;simp at D;rw[n] at D;simp[D,H,F,d,aB d,g,rP,oX,oP',aI,-ax];have t:=bk x;have Zw:=t.get x d;have hPt:=t.get x zk;have ct:(tick s).clock=s.clock+1:=Q;generalize tick s=h2 at*;refine bS.call (V:=λu l=>ay aR h2 l/\u=ix ⟨[dC (bq xs q.1.a).1,fc ft (bq xs q.1.a).2]⟩) (by simpa [n] using xv t.ok (W.hL.cm W.dv (W.g.trans t)) W.xl q.1.a) ?_;rintro _ l⟨g3,rfl⟩;have dK:=g3.get t.ok Zw;have VC:=g3.get t.ok hPt;have zm:=dD 2 2 ag;simp at zm;simp[dK,Up,g,VC,zm];have g23:=t.trans g3;have g4:=bc (off:=j*8+2) (vs:=cZ.enc (bq xs q.1.a)) g3.ok VC;have hL4:=eQ ({q.1 with a:=bq xs q.1.a},q.2) 2 (cZ.enc (bq xs q.1.a)) J (by simp[aX]) (AI.put l M (j*8+2) cP (cZ.enc (bq xs q.1.a)) oP) ⟨l.clock,J⟩;simp only[Cz] at g4 hL4;have T4:=W.put yM (x':= {q.1 with a:=bq xs q.1.a}) rfl jk (g23.cm.trans g4) hL4;have c4:(AI.put l M (j*8+2) cP [dC (bq xs q.1.a).1,fc ft (bq xs q.1.a).2] oP).clock=l.clock+1:=Q;rw[<-c4];generalize AI.put l M _ _ _ _=h4 at*;have b:=W.aw T4 rfl;simp only[xh] at T4 b;have z:=b.g.ok;have⟨sX4,p⟩:=b.hX;have hPl4:y.L.l=cz y.ls:=fW;simp at p;rw[P,fW] at p;have hq4:(o.set j (({q.1 with a:=bq xs q.1.a} :GI),q.2))[j]?=Z ({q.1 with a:=bq xs q.1.a},q.2):=by rw[fO,bK Q,bK ab]
  have Y4:=b.W.at b.hy;have⟨E,cP4,oP4,sP4,at4,akU,_,auR,aCO,avi⟩:=Y4.L.el hq4;have e4:E=M:=by have h:y.L.a=Z ⟨E,0,K⟩:=at4;rw[P] at h;cases h;rfl
  subst e4;have rP4:=aCO 4 2 ag;simp[-ax] at rP4;have oX4:=z.cg p;have aDO:=z.cg akU;have aER:=z.st _ _ _ _ _ p;simp[D,H,F,p,aB p,g,rP4,oX4,aDO,aI,-ax];have v:=bk z;have aBz:=v.get z p;have aBe:=v.get z akU;have ct4:(tick h4).clock=h4.clock+1:=Q;generalize tick h4=h5 at*;refine bS.call (V:=λu U=>ay aR h5 U/\u=ix ⟨[dC (bq xs q.1.b).1,fc ft (bq xs q.1.b).2]⟩) (by simpa [n] using xv v.ok (b.hL.cm b.dv (b.g.trans v)) b.xl q.1.b) ?_;rintro _ U⟨g6,rfl⟩;have nz:=g6.get v.ok aBz;have hP6:=g6.get v.ok aBe;have hf4:=auR 4 2 ag;simp at hf4;simp[nz,aER,g,hP6,hf4];have g56:=v.trans g6;have g7:=bc (off:=j*8+4) (vs:=cZ.enc (bq xs q.1.b)) g6.ok hP6;have hL7:=avi ({q.1 with a:=bq xs q.1.a,b:=bq xs q.1.b},q.2) 4 (cZ.enc (bq xs q.1.b)) J (by simp[aX]) (AI.put U E (j*8+4) cP4 (cZ.enc (bq xs q.1.b)) oP4) ⟨U.clock,J⟩;simp only[Cz] at g7 hL7;have T7:=b.put hq4 (x':= {q.1 with a:=bq xs q.1.a,b:=bq xs q.1.b}) rfl at4 (g56.cm.trans g7) hL7;generalize AI.put U E _ _ _ _=h7 at*;have r7:=b.aw T7 rfl;simp only[xh] at T7 r7;have hq7:(o.set j (({q.1 with a:=bq xs q.1.a,b:=bq xs q.1.b} :GI),q.2))[j]?=Z ({q.1 with a:=bq xs q.1.a,b:=bq xs q.1.b},q.2):=by rw[fO,bK Q,bK ab]
  refine aiH r7 hq7 (zI q (cO hq)) (by simp[D,n]) (au H) (au F) J ?_;intro T O N T8;have k1:bY T 1=L.v:=N.at (by simp[D,n]);have k7:bU T 7 X:=N.at (ak H);have k10:bY T 10=fc ft j:=N.at (ak F);have r8:=r7.aw T8 rfl;simp only[xh] at T8 r8;have⟨A,I⟩:∃A:GI,A= {q.1 with a:=bq xs q.1.a,b:=bq xs q.1.b,args:=q.1.args.map (bq xs)} :=⟨_,Q⟩;have T8':cV h7 O n0 B (ys.set i { y with ls:=o.set j ({q.1 with a:=bq xs q.1.a,b:=bq xs q.1.b},q.2) }) B (ys.set i {y with ls:=o.set j (A,q.2)}):=by rw[I];exact T8
  have c:RN h0 O n0 B (ys.set i {y with ls:=o.set j (A,q.2)}) L xs i {y with ls:=o.set j (A,q.2)} X:=by rw[I];exact r8
  have TT:=T'.trans (T4.trans (T7.trans T8'));have w:=c.g.ok;have⟨sX8,f⟩:=c.hX;simp at f;rw[P,fW] at f;have hq8:(o.set j (A,q.2))[j]?=Z (A,q.2):=by rw[fO,bK Q,bK ab]
  have Y8:=c.W.at c.hy;have⟨bP8,cP8,oP8,sP8,at5,aub,_,ahd,aCP,ahy⟩:=Y8.L.el hq8;have T:bP8=E:=by have h:y.L.a=Z ⟨bP8,0,K⟩:=at5;rw[P] at h;cases h;rfl
  subst T;have d8:A.dst=q.1.dst:=by rw[I]
  have rP8:=aCP 1 1 ag;simp[-ax] at rP8;rw[d8] at rP8;have oX8:=w.cg f;have av5:=w.cg aub;have aES:=w.st _ _ _ _ _ f;simp at k1;rw[n] at k1;have fin:∀(e9:Env)(k:az)(x9:GI),x9=qL xs q.1->aG ([10,11]++(aU 90).map (· +76)) e e9->bC e9 10 ((j+1:Nat):Int)->cV h1 k n0 B ys B (ys.set i {y with ls:=o.set j (x9,q.2)})->∃m,m<cz y.ls-j/\RrL h1 n0 B ys xs i y e m e9 k:=λe9 k x9 hx9 KK kk T9=>⟨cz y.ls-(j+1),ab,j+1,o.set j (x9,q.2),Q,g,KK,kk,T9,by rw[hx9];exact MR⟩;by_cases hd:0<=q.1.dst
  .simp[k1,k7,k10,f,aB f,g,rP8,hd,oX8,av5,aI,-ax];have S:=bk w;have aBA:=S.get w f;have auc:=S.get w aub;have ct8:(tick O).clock=O.clock+1:=Q;generalize tick O=k at*;refine bS.call (V:=λu Pm=>Pm=k/\u=fc ft (aV xs q.1.dst)) (by simpa [n] using xB (c.hL.cm c.dv (c.g.trans S)) c.xl q.1.dst) ?_;rintro _ Pm⟨eh,rfl⟩;rw[eh];have hf8:=ahd 1 1 ag;simp at hf8;simp[aBA,aES,g,auc,hf8,k10,wj];have g11:=bc (off:=j*8+1) (vs:=[fc ft (aV xs q.1.dst)]) S.ok auc;have aA3:=ahy ({A with dst:=aV xs q.1.dst},q.2) 1 [fc ft (aV xs q.1.dst)] J (by simp[aX]) (AI.put k bP8 (j*8+1) cP8 [fc ft (aV xs q.1.dst)] oP8) ⟨k.clock,J⟩;have T11:=c.put hq8 (x':= {A with dst:=aV xs q.1.dst}) rfl at5 (S.cm.trans g11) aA3;generalize AI.put k bP8 _ _ _ _=h11 at*;simp only[xh] at T11;refine fin _ _ {A with dst:=aV xs q.1.dst} (by rw[I];unfold qL;rw[bK hd]) ?_ J (TT.trans T11)
   repeat (refine aG.set ?_)
   refine aG.trans ?_ (N.cU)
   exact aq
  .simp[k1,k7,k10,f,aB f,g,rP8,hd,oX8,av5,aI,wj,-ax];refine fin _ _ A (by rw[I];unfold qL;rw[bM hd]) ?_ J TT
   repeat (refine aG.set ?_)
   refine aG.trans ?_ (N.cU)
   exact aq
 .have:j=cz y.ls:=ab
  subst this;rw[mO,bE,Bx] at iV;simp[H,F,d,aB d,-ax];refine C _ _ ?_ (by rw[<-iV];exact T')
  exact aq
end
def Jf(l:List (Int×(Bool×Int)))(n:Nat):List Nat:=(aU n).filter λb:Nat=>(fE l b).isSome
def Y7(l:List (Int×(Bool×Int)))(b:Nat):Bool×Int:=(fE l b).getD (cd,0)
def filterMap_eq(f:W->Option A)(d:A)(l:List W):l.filterMap f=(l.filter λa=>(f a).isSome).map λa=>(f a).getD d:=by
 induction l with
 |nil=>rfl
 |cons x xs c=>
  rw[List.filterMap_cons,List.filter_cons];rcases h:f x with _|y;simpa using c;simp[c,h]
def N6(l:List (Int×(Bool×Int)))(n:Nat):iP l n=(Jf l n).map (Y7 l):=filterMap_eq _ _ _
def SB{b:Int}(h:fE l b=Z v):(b,v)∈l:=by
 unfold fE at h;cases c:l.find? λx=>x.1==b with
 |none=>rw[c] at h;cases h
 |some x=>
  rw[c] at h;cases h;have h1:=o5 c;have o:=e0 c;have w:x.1=b:=aj h1
  rw[<-w];exact o
def anJ(l:List (Int×(Bool×Int))):Prop:=∀x∈l,∀y∈l,x.1=y.1->x=y
def Ze(d:anJ l){b:Int}(h:(b,v)∈l):fE l b=Z v:=by
 unfold fE;cases c:l.find? λx=>x.1==b with
 |none=>have:=D2.1 c _ h;simp at this
 |some x=>
  have h1:=o5 c;have o:=e0 c;have:=d x o _ h (aj h1);rw[this];rfl
def ss{n b:Nat} :b∈Jf l n↔b<n/\∃v,fE l b=Z v:=by unfold Jf;rw[EL,OB,iH]
def vW{f:Int->Int}{x:Int×(Bool×Int)} :x∈fS f l↔ ∃y∈l,0<=f y.1/\x=(f y.1,y.2):=by unfold fS;rw[List.mem_filterMap];constructor;rintro⟨y,c,e⟩;split at e;cases e;exact⟨y,c,by assumption,Q⟩;cases e;rintro⟨y,c,h0,rfl⟩;exact⟨y,c,by rw[bK h0]⟩
def Uu(A:cz row=cz P)(w:a∈P):∃v,(a,v)∈P.zip row:=by have⟨i,c⟩:=iG w;have C:=(cY.mp c).1;have⟨v,o⟩:=aQ row i;exact⟨v,cO (i:=i) (by rw[dS];exact⟨c,o⟩)⟩
def amg(a:P.Nodup) :anJ (P.zip row):=by intro x G y D e;have⟨i,o⟩:=iG G;have⟨j,c⟩:=iG D;have h1:=(dS.1 o);have A:=(dS.1 c);have C:=(cY.mp h1.1).2;have w:=(cY.mp A.1).2;have:i=j:=(List.getElem_inj a).1 (C.trans (e.trans w.symm));subst this;rw[o] at c;cases c;rfl
def Wm{f:Int->Int}{N:Nat}(b:Lz f P N) :anJ (fS f (P.zip row)):=by intro x C y A e;obtain⟨c,h1,w,rfl⟩:=vW.1 C;obtain⟨a,o,D,rfl⟩:=vW.1 A;have:=b.inj c.1 (bV (a:=c.1) (b:=c.2) h1).1 a.1 (bV (a:=a.1) (b:=a.2) o).1 w e;rw[amg b.nd c h1 a o this]
structure nH(bs:List GB)(bw:List Nat):Prop where
 o:Ord (cz bs) bw
 z:bw[0]?=Z 0
 cl:∀(k:Nat)(b:GB),k∈bw->bs[k]?=Z b->∀t∈b.to,t.toNat∈bw
section
variable{bs:List GB}{bw:List Nat}
def yT{b:GB}(c:bw[i]?=Z k)(o:bs[k]?=Z b):(bu bs bw)[i]?=Z (eW (aV (nI bw)) (cz bw) (aN bs k) b):=by unfold bu;rw[gM,c,Eo,o];rfl
def tm(o:Ord (cz bs) bw){w:GB}(h:(bu bs bw)[i]?=Z w):∃k b,bw[i]?=Z k/\bs[k]?=Z b/\w=eW (aV (nI bw)) (cz bw) (aN bs k) b:=by have⟨k,c⟩:=aQ bw i (by have:=(cY.mp h).1;simpa [bu] using this);have⟨b,A⟩:=aQ bs k (o.lt k (cO c));rw[yT c A] at h;cases h;exact⟨k,b,c,A,Q⟩
def Ord.pos(o:Ord n bw){i u:Nat}(h:bw[i]?=Z u):aV (nI bw) u=i:=Q6 o.nd h
def nH.KE(C:nH bs bw)(E:EB bs){b:GB}(A:k∈bw)(w:bs[k]?=Z b){t:Int}(o:t∈b.to):∃i u:Nat,t=u/\bw[i]?=Z u/\aV (nI bw) t=i/\1<=i:=by have h1:=E.to b (cO w) t o;obtain⟨u,rfl⟩:∃u:Nat,t=u:=⟨t.toNat,ab⟩;have⟨i,c⟩:=iG (C.cl k b A w _ o);simp at c;refine⟨i,u,Q,c,C.o.pos c,?_⟩;rcases EK i with h|h;subst h;rw[C.z] at c;cases c;omega;exact h
def nH.ahead(C:nH bs bw)(E:EB bs)(D:bw[i]?=Z k){a:Nat} :(a:Int)∈aN (bu bs bw) i↔ ∃u:Nat,bw[a]?=Z u/\(u:Int)∈aN bs k:=by
 rw[cJ];constructor
 .rintro⟨j,e,b,G,A⟩;have:j=a:=ab
  subst this;obtain⟨u,b,c,w,rfl⟩:=tm C.o G;refine⟨u,c,cJ.2 ⟨u,Q,b,w,?_⟩⟩;have⟨t,o,d⟩:=kC.1 A;obtain⟨I,v,rfl,h1,d,_⟩:=C.KE E (cO c) w o;have:I=i:=ab
  subst this;rw[D] at h1;cases h1;exact o
 .rintro⟨u,c,A⟩;have⟨j,e,b,w,o⟩:=cJ.1 A;have:j=u:=ab
  subst this;exact⟨a,Q,_,yT c w,kC.2 ⟨k,o,C.o.pos D⟩⟩
def nH.key(C:nH bs bw)(k:Int):Lz (aV (nI bw)) (aN bs k) (cz bw):=C.o.key rfl λ_ _=>rfl
def nH.keys(C:nH bs bw)(E:EB bs)(c:bw[i]?=Z k)(D:cz row=cz (aN bs k)):aN (bu bs bw) i=(Jf (fS (aV (nI bw)) ((aN bs k).zip row)) (cz bw)).map λx:Nat=>(x:Int):=by
 have I:cz (bu bs bw)=cz bw:=by simp[bu]
 have e:∀a:Nat,a<cz bw->((a:Int)∈aN (bu bs bw) i↔ ∃v,fE (fS (aV (nI bw)) ((aN bs k).zip row)) a=Z v):=λa o=>by
  rw[C.ahead E c];constructor;rintro⟨u,W,c⟩;have⟨v,w⟩:=Uu D c;have G:=C.o.pos W;exact⟨v,Ze (Wm (C.key k)) (vW.2 ⟨_,w,by show 0<=aV (nI bw) u;omega,by rw[show aV (nI bw) u=(a:Int) from G]⟩)⟩
  .rintro⟨v,w⟩;have⟨y,V,h0,e⟩:=vW.1 (SB w);have c:=(bV (a:=y.1) (b:=y.2) V).1;obtain⟨u,D,b,b,_⟩:=cJ.1 c;have b:(a:Int)=aV (nI bw) y.1:=congrArg Prod.fst e;rw[D] at h0 b;rcases C.o.place u with⟨j,h1,A,_⟩|⟨_,A⟩
   exact⟨u,by rw[show a=j by omega];exact h1,D▸c⟩;omega
 show jX (bu bs bw) (cz (bu bs bw)) i=_;unfold jX Jf;rw[I];congr 1;refine List.filter_congr λa o=>?_;have o:=OB.1 o;have h1:=e a o;rw[cJ] at h1;have A:(∃x,(bu bs bw)[a]?=Z x/\(i:Int)∈x.to)↔ ∃v,fE (fS (aV (nI bw)) ((aN bs k).zip row)) a=Z v:=by
  rw[<-h1];constructor;rintro⟨x,h,s⟩;exact⟨a,Q,x,h,s⟩
  .rintro⟨j,e,x,h,s⟩;have:j=a:=ab
   subst this;exact⟨x,h,s⟩
 rw[Bool.eq_iff_iff,decide_eq_true_eq,iH];exact A
def nH.eb(C:nH bs bw)(E:EB bs):EB (bu bs bw):=by
 have F:cz (bu bs bw)=cz bw:=by simp[bu]
 have D:=C.o.len;have X:=E.n50;have I:∀w∈bu bs bw,∃(i k:Nat) (b:GB),bw[i]?=Z k/\bs[k]?=Z b/\w=eW (aV (nI bw)) (cz bw) (aN bs k) b:=λw D=>by have⟨i,X⟩:=iG D;have⟨k,b,h1,o,P⟩:=tm C.o X;exact⟨i,k,b,h1,o,P⟩
 refine⟨?_,ab,λw D=>?_,λw D c d=>?_,λi w D T V=>?_,λw D=>?_⟩;have:=(cY.mp C.z).1;omega
 .obtain⟨i,k,b,G,A,rfl⟩:=I w D;rcases E.kind b (cO A) with⟨h1,o⟩|⟨h1,t,o⟩|⟨h1,t,u,o,P⟩;exact jZ ⟨h1,by simp[eW,o]⟩;exact kd (jZ ⟨h1,_,by simp[eW,o];rfl⟩)
  .refine kd (kd ⟨h1,_,_,by simp[eW,o];exact⟨Q,Q⟩,λe=>P ?_⟩);obtain⟨a,x,rfl,z,F,_⟩:=C.KE E (cO G) A (t:=t) (by rw[o];simp);obtain⟨c,y,rfl,f,O,_⟩:=C.KE E (cO G) A (t:=u) (by rw[o];simp);have:a=c:=ab
   subst this;rw[z] at f;cases f;rfl
 obtain⟨i,k,b,G,A,rfl⟩:=I w D;obtain⟨t,W,rfl⟩:=kC.1 d;obtain⟨a,x,rfl,z,F,f⟩:=C.KE E (cO G) A W;have:=(cY.mp z).1;omega
 obtain⟨k,b,G,A,rfl⟩:=tm C.o D;obtain⟨p,d,rfl⟩:=kC.1 V;rw[C.keys E G (E.rows k b A p d)];show(iP _ _).length=_;rw[N6,AZ,AZ]
 obtain⟨i,k,b,G,A,rfl⟩:=I w D;simpa [eW] using E.pl b (cO A)
end
def EB.HV(E:EB bs):nH bs (eH bs):=by have⟨o,z⟩:=E.bw;refine⟨o,z,λk b c A t w=>(E.rch _).2 (Edge.HF.step ((E.rch k).1 c) (ts:=b.to) ?_ w)⟩;unfold cw;rw[gM,A];rfl
def ahH{r:List (Bool×Int)}(h:x∈zr r j v):x∈r\/x=v:=by unfold zr at h;simp only[kg,bl] at h;rcases h with(h|h)|h;exact jZ (ET h);exact kd h;exact jZ (qy h)
def agr{r:List (Bool×Int)}(h:x∈je r k):x∈r:=by unfold je at h;rcases kg.1 h with h|h;exact ET h;exact qy h
def aib(h:x∈PA P cg w row):x∈row\/x=(cd,0):=by unfold PA at h;rcases ahH h with h|h;exact jZ (agr h);rcases c:row[(aV P cg).toNat]? with _|v;rw[c] at h;exact kd h;rw[c] at h;exact jZ (h▸cO c)
structure UQ(aF:Nat)(bs:List GB):Prop where
 r:∀b∈bs,vP aF (Gy b)
 p:∀b∈bs,cz b.bz<=100000
 a:∀b∈bs,∀x∈b.list,cz x.args<=100000
def ze.al{a:Nat}(R:ze a bs):UQ a bs:=⟨R.r,R.p,R.a⟩
def kD{c:Nat}{b:GB} :vP c (Gy b)↔(∀p∈b.bz,vP c (vG p))/\(∀x∈b.list,vP c (CD x))/\vP c (kq b.on):=by unfold Gy vP;constructor;intro h;exact⟨λp o r c=>h r (aW _ (ba.2 ⟨p,o,c⟩)),λx w r c=>h r (af _ (aW _ (ba.2 ⟨x,w,c⟩))),λr c=>h r (af _ (af _ c))⟩;rintro⟨h1,A,C⟩ r c;rcases kg.1 c with h|h;have⟨p,o,h⟩:=ba.1 h;exact h1 p o r h;rcases kg.1 h with h|h;have⟨x,w,h⟩:=ba.1 h;exact A x w r h;exact C r h
def dE.aF{c:Nat}{bs:List GB}{b t:Nat}{B T:GB}(D:dE bs b t B T)(R:UQ c bs):UQ c (cG bs b t B T):=by
 have f:∀(i:Nat)(X:GB),X∈bs->∀p∈(if(i:Int)∈T.to then Et (aN bs i) t b X else X).bz,vP c (vG p):=λi X w p A=>by
  have h0:=(kD.1 (R.r X w)).1;split at A
  .obtain⟨q,V,rfl⟩:=kC.1 A;have:=h0 q V;unfold vG at this⊢;intro r c;rcases kg.1 c with h|h
   exact this r (aW _ h);have⟨v,G,C⟩:=ba.1 h;rcases aib G with G|G;exact this r (af _ (ba.2 ⟨v,G,C⟩));rw[G] at C;simp[kq] at C
  exact h0 p A
 have e:=cO D.ht;have W:∀a∈cG bs b t B T,∃(i:Nat) (X:GB),bs[i]?=Z X/\a=dU bs b t B T i X:=λa I=>by have⟨i,d⟩:=iG I;have⟨X,h1,C⟩:=gf d;exact⟨i,X,h1,C⟩
 have d:∀(i:Nat)(X:GB),bs[i]?=Z X->∀x∈(dU bs b t B T i X).list,∃a∈bs,x∈a.list:=λi X w x o=>by unfold dU at o;split at o;simp[uw] at o;split at o;rcases kg.1 o with h|h;exact⟨B,cO D.hb,h⟩;exact⟨T,e,h⟩;refine⟨X,cO w,?_⟩;split at o<;>exact o
 refine⟨λa I=>?_,λa I=>?_,λa I x o=>?_⟩<;>obtain⟨i,X,w,rfl⟩:=W a I;refine kD.2 ⟨λp A=>?_,λx o=>?_,?_⟩;by_cases D:i=t;unfold dU at A;rw[bK D] at A;simp[uw] at A;rw[mM D] at A;exact f i X (cO w) p A;have⟨a,h1,C⟩:=d i X w x o;exact(kD.1 (R.r a h1)).2.1 x C;unfold dU;split;intro r c;simp[uw,kq] at c;split;exact(kD.1 (R.r T e)).2.2;split;exact(kD.1 (R.r X (cO w))).2.2;exact(kD.1 (R.r X (cO w))).2.2;have h0:=R.p X (cO w);by_cases D:i=t;unfold dU;rw[bK D];simp[uw];rw[mM D];split;simpa [Et] using h0;exact h0;have⟨a,h1,C⟩:=d i X w x o;exact R.a a h1 x C
def Steps.aF{b:Nat}{a c:List GB}(s:Steps a c)(R:UQ b a):UQ b c:=by
 induction s with
 |refl=>exact R
 |step _ c o=>exact c.aF o
def To(h:∀b∈bs,cz b.list<=k):iz bs<=cz bs*k:=by
 unfold iz;induction bs with
 |nil=>simp
 |cons b bs c=>
  have h1:=h b (iY ..);have w:=c λb o=>h b (xV _ o);simp only[xg,O2,eN,xf,Nat.one_mul];omega
def PR(p:Nat)(bs:List GB)(o:Nat×List GB):Prop:=∃c,Steps (bu bs (eH bs)) c/\(∀x,xY c x)/\EB c/\o=uB p c
def aa8(b:cu h){name:ByteArray}{p n0 a:Nat}(n:n0<=h.aw)(W:FZ h n0 B ys)(n:xS B ys)(E:EB (ys.map YB.g))(R:ze a (ys.map YB.g))(g:∀c∈ys.map YB.g,cz c.list<=1000)(y:p<=a)(q:a<1000000):aY FF 77 [ix ⟨aC name p a B⟩] h (λv s=>∃D,PR p (ys.map YB.g) D/\zd name p n0 B ys D h v s):=by
 have C:=E.HV;have D:=E.n50;have D:=C.o.len;have x:=R.kept C.o;have z:=C.eb E;have f:cz (bu (ys.map YB.g) (eH (ys.map YB.g)))=cz (eH (ys.map YB.g)):=by simp[bu]
 have D:iz (bu (ys.map YB.g) (eH (ys.map YB.g)))<=50000:=by refine qN (To (k:=1000) λc D=>?_) (by rw[f];exact IX 1000 (m:=50) ab);unfold bu at D;obtain⟨k,f,rfl⟩:=kC.1 D;have⟨X,j⟩:=aQ (ys.map YB.g) k (C.o.lt k f);rw[j];exact g X (cO j)
 have j:∀f,h.aw<=f->¬cK B ys f:=λf g h1=>av (W.mq b h1)
 refine aY.of U8 ?_;unfold JJ;have g:¬h.aw=h.aw+1:=ab
 have m:¬h.aw+1=h.aw:=ab
 simp[aC,g,m];refine bS.cut (λh1=>ay aR h h1/\h1.tr.get h.aw=Z (.bZ (aC name p a B) cd 0 0)/\(di h1 (h.aw+1) [gX ⟨⟨[]⟩⟩,fc ft 0,fc ft 0,dB K 0 0])) ?_ ?_;exact⟨(((ay.refl b).new _ _).new _ _).tick,by simp[aC,g],⟨0,J⟩⟩;rintro h1⟨I,t,⟨g,g⟩⟩;have m:=I.ok.wf _ _ g;refine bS.call (V:=λv s=>ay aR h1 s/\∃L:SV,v=L.v/\bm encI h1.aw s L.v (xC (ys.map YB.g)).reverse) (by simpa [aC] using Gl I.ok (name:=name) (p:=p) (r:=a) (W.cm b I).view E.ends E.n1) ?_;rintro _ m⟨G,L,rfl,d⟩;rw[TJ] at d;have l:=I.trans G;have r:=G.get I.ok t;have t:=G.get I.ok g;have g:=W.cm b l;have X:=G.aw;simp[r];refine bS.call (V:=afY name p a n0 B ys (bu (ys.map YB.g) (eH (ys.map YB.g))) m) (by simpa [aC] using Nd G.ok (name:=name) (p:=p) (r:=a) g ab E (aj C.o) d.sl (λ_ c D h=>by have:=d.of D;have:=W.mq b h;omega)) ?_;rintro _ u⟨d,m,rfl,A,g⟩;have r:=((cV.refl W b).cm l).trans A;have X:=A.g.get G.ok t (j _ ab);have t:=A.g.aw;simp[aC];refine bS.call (V:=afU name p a n0 d m u) (by simpa [aC] using Sa A.g.ok (name:=name) (p:=p) (rg:=a) ab A.w (by rw[g];exact z) (by rw[g];omega)) ?_;rintro _ t⟨rfl,w,o,u⟩;have l:=r.trans o.T;have b:=o.S;have r:=o.l;rw[g] at b r;have g:=b.aF x.al;have x:ze a (w.map YB.g):=⟨g.r,g.p,λc D=>by have⟨i,c⟩:=iG D;have:=DB c;omega,g.a⟩
 have D:=o.T.g.aw;have D:¬cK d m (h.aw+1):=λe=>(A.s _ e).elim (j _ ab) ab;have m:¬cK d w (h.aw+1):=λe=>(o.T.s _ e).elim D ab;have j:=o.T.g.get A.g.ok X D;simp[aC];refine bS.call (V:=zd name p n0 d w (uB p (w.map YB.g)) t) (by simpa [aC] using WE o.T.g.ok (name:=name) (p:=p) ab o.T.w (l.x n) o.E x y q) ?_;rintro _ q⟨d,n,rfl,D,g⟩;have y:=l.trans D;have l:=D.g.get o.T.g.ok j m;simp[aC,l];have j:=(ay.refl D.g.ok).put (S:=(· =h.aw+1)) (off:=0) (vs:=[cW name,aA ft p,aA ft (uB p (w.map YB.g)).1,bf d.a d.l d.c]) ⟨_,l⟩ (kd Q);generalize put q _ _ _ _ _=h6 at j⊢;exact⟨(uB p (w.map YB.g)).1,(uB p (w.map YB.g)).2,⟨w.map YB.g,b,u,o.E,Q⟩,d,n,by simp[aC],y.go j (λf e=>⟨ab,λh=>by rw[e] at h;exact(D.s _ h).elim m ab⟩),g⟩
def Yq{W:Type}(p:W->Bool):∀xs:List W,∃f:Nat->Nat,(∀a b,f a=f b->a=b)/\∀j,j<cz (xs.filter p)->(xs.filter p)[j]?=xs[f j]?
 |[]=>⟨id,λ_ _ h=>h,λj h=>by simp at h⟩
 |x::l=>by
  have⟨f,i,e⟩:=Yq p l;by_cases h:p x
  .refine⟨λj=>if j=0 then 0 else f (j-1)+1,λa b e=>?_,λj c=>?_⟩;dsimp only at e;split at e<;>split at e;omega;omega;omega;have:=i _ _ (by omega:f (a-1)=f (b-1));omega
   .rw[List.filter_cons_of_pos h] at c⊢;cases j with
    |zero=>rfl
    |succ j=>simp at c;simpa using e j c
  exact⟨λj=>f j+1,λa b h=>i a b (Nat.succ.inj h),λj c=>by rw[List.filter_cons_of_neg h] at c⊢;simpa using e j c⟩
def Lo.mR(f:Nat->Nat):Lo->Lo
 |.R j=>.R (f j)
 |.P=>.P
 |.L=>.L
 |.T=>.T
 |.X j=>.X j
def Lo.mX(f:Nat->Nat):Lo->Lo
 |.X j=>.X (f j)
 |.P=>.P
 |.L=>.L
 |.T=>.T
 |.R j=>.R j
def Lo.aDs{f:Nat->Nat}(i:∀a b,f a=f b->a=b)(a b:Lo)(e:a.mR f=b.mR f):a=b:=by cases a<;>cases b<;>simp[Lo.mR] at e<;>first|rfl|(rw[i _ _ e])|(rw[e])
def Lo.aDt{f:Nat->Nat}(i:∀a b,f a=f b->a=b)(a b:Lo)(e:a.mX f=b.mX f):a=b:=by cases a<;>cases b<;>simp[Lo.mX] at e<;>first|rfl|(rw[i _ _ e])|(rw[e])
section
variable{h0 h s:az}{n0:Nat}{y y':YB}{d B:SV}{f ys:List YB}{i:Nat}
def cV.del{k:Lo}(b:Lo->Lo)(T:cV h0 h n0 d f B ys)(n:n0<=h0.aw)(A:ys[i]?=Z y)(G:¬k.x)(n:∀a g,b a=b g->a=g)(D:∀l,(b l).x↔l.x)(w:∀l c,y'.loc l=Z c->y.loc (b l)=Z c)(j:ay (λc=>y.loc k=Z c\/dt B=Z c) h s)(W:eM eF s B (ys.set i y'))(x:(∀c l,(y.loc k=Z c\/dt B=Z c)->l≠k->y.loc l≠Z c)->BZ s y'):cV h0 s n0 d f B (ys.set i y'):=by
 have m:=T.g.aw;refine T.step j (λc C=>jZ (C.elim (λe=>⟨Z (i,k),by rw[cC A];exact e⟩) λe=>⟨K,e⟩)) (T.w.py T.g.ok j ab A (λc C o I=>?_) W (x λc l C j w=>?_) (λp m a g c h1 V=>?_) λl c e=>jZ ⟨b l,w l c e,(D l).1⟩);rcases C with e|e;exact kd ⟨k,T.w.own A e I G⟩;exact jZ (T.w.tQ K o c e I).symm;rcases C with e|e;exact j (T.w.KO A k l c e w G).symm;have:=T.w.tQ K (Z (i,l)) c e (by rw[cC A];exact w);cases this
 rcases m (b a) (b g) c (w a c h1) (w g c V) with e|⟨m,b,c⟩;exact jZ (n a g e);exact kd ⟨m,(D a).1 b,(D g).1 c⟩
end
section
variable{h0:az}{aF N F M f d:Nat}{c:List SV}{b:List (List (Bool×Int))}
def SD{f:W->List A}{xs:List W}{x:W}(c:xs[j]?=Z x):(xs.take (j+1)).flatMap f=(xs.take j).flatMap f++f x:=by rw[kh,c,List.flatMap_append];simp
end
section
variable{f:GF}
def iv.eb(F:iv f):EB f.blocks:=by
 have h1:=F.head.blocks;have a:=F.head.many;have a:∀bs:List GB,bs.map (·.to)=f.blocks.map (·.to)->cz bs=cz f.blocks->(∀(i:Nat)(b:GB),bs[i]?=Z b->∃x,f.blocks[i]?=Z x/\b.kind=x.kind/\b.to=x.to)->(∀(i:Nat)(b:GB),bs[i]?=Z b->∀p∈b.bz,cz p.row=cz (aN bs i))->(∀b∈bs,cz b.bz<100000)->EB bs:=λbs _ h d I W=>by
  have g:∀b∈bs,∃x∈f.blocks,b.kind=x.kind/\b.to=x.to:=λb c=>by have⟨i,D⟩:=iG c;have⟨x,o,e⟩:=d i b D;exact⟨x,cO o,e⟩
  refine⟨ab,ab,λb c=>?_,λb c t d=>?_,I,W⟩;have⟨x,o,D,A⟩:=g b c;rw[D,A];exact(F.body.ends x o).kind;have⟨x,o,D,A⟩:=g b c;rw[A] at d;have:=(F.body.ends x o).to t d;unfold W9 at this;omega
 have C:EB (f.blocks.map λb=> {b with bz:=[]}):=a _ (by simp[bL,n4]) J (λi b c=>by
  rw[gM] at c;rcases o:f.blocks[i]? with _|x;rw[o] at c;cases c;rw[o] at c;cases c;exact⟨x,Q,Q,Q⟩) (λi b c p G=>by
  obtain⟨x,_,rfl⟩:=kC.1 (cO c);cases G) (λb c=>by
  obtain⟨x,_,rfl⟩:=kC.1 c;exact Nat.zero_lt_succ _)
 refine a f.blocks rfl rfl (λi b c=>⟨b,c,Q,Q⟩) (λi b c p G=>?_) λb c=>av (jF c)
 have⟨_,l,h,V⟩:=(F.body.LQ i b c).bz p G;have w:=C.ahead (k:=i) (by rw[AZ];exact(cY.mp c).1);have D:cw (f.blocks.map λb=> {b with bz:=[]})=cw f.blocks:=by simp[cw,bL,n4]
 have A:aN (f.blocks.map λb=> {b with bz:=[]}) (i:Int)=aN f.blocks i:=lQ J (λi x b h1 w=>by rw[gM,h1] at w;cases w;rfl) _;rw[D,A,h] at w;cases w;exact V.len
def SA(h:rS n v):vP n (kq v):=λr c=>by unfold kq at c;split at c;rename_i e;cases bl.1 c;exact h e;cases c
def agB{l:List (Bool×Int)}(h:∀v∈l,rS n v):vP n (tJ l):=λr c=>by have⟨v,o,c⟩:=ba.1 c;exact SA (h v o) r c
def iv.aqB(F:iv f):ze f.aF.toNat f.blocks:=by have b:=F.head.many;refine⟨λb c=>?_,λb c=>av (jF c),λb c=>av (jF c),λb c x A=>?_⟩;have I:=ahG F b c;refine kD.2 ⟨λp C r o=>?_,λx A r o=>?_,SA I.on⟩;have⟨h1,_,w⟩:=I.ph p C;rcases kg.1 o with h|h;cases bl.1 h;exact h1;exact agB w r h;have⟨h1,w,G,_,D⟩:=I.li x A;unfold CD at o;rcases kg.1 o with h|h;exact SA w r h;rcases kg.1 h with h|h;exact SA G r h;rcases kg.1 h with h|h;exact agB D r h;split at h;cases bl.1 h;exact⟨by assumption,h1⟩;cases h;have⟨i,a⟩:=iG c;have:=(vU ((F.body.LQ i b a).list x A)).2;omega
def iv.Hv(F:iv f):∀b∈f.blocks,Kr b:=λb c=>by
 have G:=F.head.many;have:=jF c;have⟨i,o⟩:=iG c;refine⟨ab,ab,λp w=>?_,λx D=>?_,?_⟩
 have⟨_,l,A,C⟩:=(F.body.LQ i b o).bz p w;have:=C.len;have:=ans F A;omega
 have:=(vU ((F.body.LQ i b o).list x D)).2;omega;have:=F.eb.two c;omega
end
def LgZ(h:az)(B:SV)(bs:List GB)(F:Nat)(o:List aa)(m:Nat)(e:Env)(c:az):Prop:=
 ∃j:Nat,m=cz bs-j/\j<=cz bs/\bU e 1 F/\bC e 3 (dF (bs.take j):Nat)/\dF (bs.take j)<=j*2000000/\bY e 7=B.v/\bC e 8 (cz bs)/\bC e 9 j/\ay aR h c
def Wp(i:cu h){name:ByteArray}{p r:Int}(U:qP h B bs)(C:Y1 bs):aY FF 70 [ix ⟨aC name p r B⟩] h (λv s=>ay aR h s/\v=dC (jE r bs)):=by
 have c:=ad.len U;have z:=C.1;refine aY.of O6 ?_;unfold ED;simp[aC,c];refine aK.cut (λh1=>ay aR h h1/\di h1 h.aw (aC name p r B)) ?_ ?_
 exact⟨(ay.refl i).new _ _,0,by simp[aC,c]⟩;rintro h1⟨w,d,M⟩;refine aK.loop (LgZ h1 B bs h.aw (aC name p r B)) ?_ (n:=cz bs) ⟨0,Q,ab,J,by simp[dF],by simp[dF],au c,J,J,.refl w.ok⟩;rintro m e q⟨j,rfl,g,D,G,f,a,I,z,o⟩;have⟨k,A⟩:∃k,k=dF (bs.take j):=⟨_,Q⟩;rw[<-A] at G f;have u:=o.get w.ok M;unfold BA;by_cases F:j<cz bs
 have V:bs[j]?=Z bs[j]:=jh F;have E:=Ik F;generalize bs[j]=b at V E;have⟨f,N⟩:=C.2 b E;obtain⟨l,l,H,d,_,_,⟨P,L,H,rfl,l,x,t⟩,y,E⟩:=ad.later i U V;have n:=E q (w.trans o) 0 6 ag;simp[-ax] at n;have X:=ad.len l;have O:=ad.len x;simp at a;rw[d,c] at a;have S:=ch ((j:Int)+1) ab ab;have N:=ch ((cz b.bz:Int)+cz b.list) ab ab;have t:=ch ((k:Int)+((cz b.bz:Int)+cz b.list)) ab ab;have T:ay aR q (put (aJ q [dB K 0 0,dB K 0 0,fc ft 0,dC cd,fc ft 0,dB K 0 0] 0) q.aw 0 [dB K 0 0,dB K 0 0,fc ft 0,dC cd,fc ft 0,dB K 0 0] [P.v,L.v,fc ft b.kind,dC b.on.1,fc ft b.on.2,H.v] 0):=(ay.refl o.ok).var _ _;simp at T;simp[D,G,a,I,z,F,n,X,O,S,N,t,-ax,aH];rw[X,O] at T;refine⟨cz bs-(j+1),ab,j+1,Q,F,au D,by simp[xt V,A],by rw[xt V,<-A];omega,by simp[a,d,c],au I,J,o.trans T⟩
 .have:j=cz bs:=ab
  subst this;rw[mO] at A;subst A;have W:=u;simp[aC] at W;by_cases H:(40:Int)<(cz bs:Int)
  .have d:40<cz bs:=ab
   simp[D,G,I,z,W,c,H,jE,d];exact w.trans o
  .by_cases n:(300:Int)<(dF bs:Int)
   .have N:300<dF bs:=ab
    simp[D,G,I,z,W,c,H,n,jE,N];exact w.trans o
   .have d:¬40<cz bs:=ab
    have N:¬300<dF bs:=ab
    simp[D,G,I,z,W,c,H,n,jE,d,N];exact w.trans o
def ZE(M:Nat)(h:az)(y:XG)(g:GG):Prop:=eM encI h y.I g.init/\∀c,dt y.I=Z c->M<=c
def ayU(h0 h:az)(G F f:SV)(U R1 R2:Nat)(fv:aa)(I:List GG)(m:Nat)(e:Env)(s:az):Prop:=
 ∃(j:Nat) (ys:List XG),m=cz I-j/\j<=cz I/\bY e 1=fv/\bU e 2 U/\bU e 4 R1/\bU e 5 R2/\bY e 15=G.v/\bC e 16 (cz I)/\bC e 17 j/\ay (bx G.v) h s/\eM FW s G ys/\UR ys I/\(∀(i:Nat)(y:XG)(g:GG),i<j->ys[i]?=Z y->I[i]?=Z g->ZE h.aw s y g)/\∀(i:Nat)(y:XG)(g:GG),j<=i->ys[i]?=Z y->I[i]?=Z g->ad nR 1 h0 y.I.v g.init
def Pj(dv:cu h0)(N:ay aR h0 h){G F f:SV}{ys:List XG}(v:eR h U [G.v,F.v] o)(u:¬bx G.v U)(q:eM FW h G ys)(c:∀b,bx G.v b->h0.aw<=b)(L:UR ys I)(n:∀(i:Nat)(y:XG)(g:GG),ys[i]?=Z y->I[i]?=Z g->ad nR 1 h0 y.I.v g.init)(t:cz I<=10)(d:∀g∈I,cz g.init<=1048576)(X:bY e 1=fv)(z:bU e 2 U)(P:bU e 4 R1)(H:bU e 5 R2)(T:bY e 15=G.v)(r:bC e 16 (cz I))(B:bC e 17 0)(C:∀k s D,bY k 1=fv->bU k 2 U->bU k 4 R1->bU k 5 R2->ay (bx G.v) h s->eM FW s G D->UR D I->(∀(i:Nat)(y:XG)(g:GG),D[i]?=Z y->I[i]?=Z g->ZE h.aw s y g)->V (.exit 0) k s):aK FF (.loop xO) e h V:=by
 have M:=q.len;refine aK.loop (ayU h0 h G F f U R1 R2 fv I) ?_ (n:=cz I) ⟨0,ys,Q,ab,X,z,P,H,T,r,B,.refl N.ok,q,L,λi y g h=>ab,λi y g _ a b=>n i y g a b⟩;rintro m k s⟨j,E,rfl,T,r,H,q4,F,T,t,W,g,S,D,hD',l⟩;have k:=g.ok;have gg:ay aR h0 s:=N.trans' g ai (λx n e=>av (c x e));have n:=g.get N.ok v u;have L:=n;simp at L;have z:=k.st _ _ _ _ _ n;have c:=k.cg n;unfold xO;by_cases p:j<cz I
 .have wj:=ch ((j:Int)+1) ab ab;have⟨y,O⟩:=aQ E j (by rw[D.1];exact p);have⟨n,P⟩:=aQ I j p;have M:=l j y n (fq _) O P;have⟨b,cs,o',z,X,B,v,dD,dg,eQ⟩:=S.el O;have v:=S.len;have z:=dg 0 3 ag;simp[-ax] at z;rw[X,v,D.1] at L;simp at T;rw[X,v,D.1] at T;have nUb:¬U=b:=λe=>u (e▸fH X);simp[H,T,t,W,p,z,-ax,aH,cn,bj,aB L,c,aI];refine bS.cut (λw=>ay aR s w) (((ay.refl k).var _ _).tick) ?_;intro w z;have u:=z.get k L;have EN:=z.get k B;refine bS.call (V:=lz encI w n.init) (aj (mQ encI (bytes:=8) qu Q ag z.ok ((WD M).cm dv (gg.trans z)) (av (d n (cO P))))) ?_;rintro _ B⟨d,A,rfl,L,M,c⟩;have hU4:=d.get z.ok u;have c:=d.get z.ok EN;have u:o<=s.clock+1:=ab
  have n:=dD 2 1 ag;simp at n;simp[H,hU4,u,p,c,n,W,wj];have u:=bc (off:=j*3+2) (vs:=[bf A.a A.l A.c]) d.ok c;have c:=eQ {y with I:=A} 2 [bf A.a A.l A.c] J rfl (put B b (j*3+2) cs [bf A.a A.l A.c] o') ⟨B.clock,J⟩;refine⟨cz I-(j+1),ab,j+1,E.set j {y with I:=A},Q,p,au r,au H,au q4,au F,by simp[T,X,v,D.1],au t,J,((g.trans z.cm).trans d.cm).trans (u.cU (λx _ e=>e▸fH X)),c,⟨by simp[D.1],λi a c h1 w=>?_⟩,λi a c B h1 w=>?_,λi a c B h1 w=>?_⟩
  rw[fO] at h1;by_cases n:j=i;subst n;rw[bK Q,bK (by rw[D.1];exact p)] at h1;cases h1;exact D.2 j y c O w;rw[bM n] at h1;exact D.2 i a c h1 w
  .have B:b<h.aw:=av (q.cg N.ok (fH X))
   have O:=g.aw;have B:=z.aw;rw[fO] at h1;by_cases n:j=i
   subst n;rw[bK Q,bK (by rw[D.1];exact p)] at h1;cases h1;rw[P] at w;cases w;exact⟨L.go d.ok u λc q e=>av (lz.dt L M c e),λc e=>av (lz.dt L M c e)⟩;rw[bM n] at h1;have⟨X,N⟩:=hD' i a c ab h1 w;exact⟨((X.cm k z).cm z.ok d).go d.ok u λc q e=>av (N c e),N⟩
  rw[fO,bM ab] at h1;exact l i a c ab h1 w
 .have:j=cz I:=ab
  subst this;simp[t,W];exact C _ _ E (au r) (au H) (au q4) (au F) g S D λi y g a b=>hD' i y g (av ((cY.mp b).1)) a b
abbrev ni:Type:=GF->Nat×List GB->Prop
def Ew(M:Nat)(P:ni)(h:az)(z:XF)(f:GF):Prop:=
 ∃(n0:Nat) (ys:List YB) (c:Nat),M<=n0/\FZ h n0 z.B ys/\(z.name=f.name/\z.params=f.params/\z.aF=c)/\P f (c,ys.map YB.g)
def PL(P:ni):ni:=λf c=>P f c/\jE c.1 c.2=cd
def Ew.grow{S:Nat->Prop}{P:ni}{z:XF}{f:GF}(d:Ew M P h z f)(w:cu h)(g:ay S h s)(A:∀b,S b->b<M\/h.aw<=b):Ew M P s z f:=by have⟨n0,ys,o,C,O,a,b⟩:=d;exact⟨n0,ys,o,C,O.low w g λc D=>(A c D).imp (λe=>ab) id,a,b⟩
def ayV(h0 c:az)(P:ni)(F:SV)(U R1 R2:Nat)(fv:aa)(fs:List GF)(m:Nat)(e:Env)(s:az):Prop:=
 ∃(k:Nat) (a:List XF),m=cz fs-k/\k<=cz fs/\bY e 1=fv/\bU e 2 U/\bU e 4 R1/\bU e 5 R2/\bY e 36=F.v/\bC e 37 (cz fs)/\bC e 38 k/\ay (bx F.v) c s/\eM x7 s F a/\cz a=cz fs/\(∀(i:Nat)(z:XF)(f:GF),i<k->a[i]?=Z z->fs[i]?=Z f->Ew c.aw (PL P) s z f)/\∀(i:Nat)(z:XF)(f:GF),k<=i->a[i]?=Z z->fs[i]?=Z f->Zl h0 z f
def Vp{h0 I:az}(dv:cu h0)(T:ay aR h0 I){P:ni}{q F:SV}{U R1 R2 o u s2:Nat}{zs0:List XF}(hU:eR I U [q.v,F.v] o)(xj:eR I R1 [dB K 0 0,dB K 0 0] u)(tM:eR I R2 [fc ft 0,fc ft 0] s2)(n12:¬R1=R2)(nU:¬bx F.v U)(nR1:¬bx F.v R1)(nR2:¬bx F.v R2)(hF:eM x7 I F zs0)(L:∀b,bx F.v b->h0.aw<=b)(c:cz zs0=cz fs)(d:∀(i:Nat)(z:XF)(f:GF),zs0[i]?=Z z->fs[i]?=Z f->Zl h0 z f)(y:cz fs<=10)(S:∀f∈fs,iv f)(hP:∀f∈fs,∀w,P f w->Y1 w.2)(H':∀f∈fs,∀(h:az)(A n0 q:Nat)(B:SV)(ys:List YB),cu h->ay (bx F.v) I h->n0<=h.aw->I.aw<=n0->f.params=A->f.aF=q->A<=q->q<1000000->FZ h n0 B ys->xS B ys->ys.map YB.g=f.blocks->fh FF fv [ix ⟨aC f.name A q B⟩] h (λv s=>∃w,P f w/\zd f.name A n0 B ys w h v s))(X:bY e 1=fv)(u:bU e 2 U)(y:bU e 4 R1)(E:bU e 5 R2)(q:bY e 36=F.v)(H:bC e 37 (cz fs))(M:bC e 38 0)(bad:∀(r:Env)(s:az)(a:Nat)(f:GF)(w:Nat×List GB),fs[a]?=Z f->P f w->jE w.1 w.2=ck->(∀(i:Nat)(f:GF),i<a->fs[i]?=Z f->∃w,P f w/\jE w.1 w.2=cd)->bU r 4 R1->bU r 5 R2->ay (λb=>bx F.v b\/b=R1\/b=R2) I s->(di s R1 [dB K 0 0,dB K 0 0])->(di s R2 [fc ft 10,fc ft a])->V .ret r s)(Ga:∀r s O,bU r 2 U->bU r 4 R1->bU r 5 R2->ay (bx F.v) I s->eM x7 s F O->cz O=cz fs->(∀(i:Nat)(z:XF)(f:GF),O[i]?=Z z->fs[i]?=Z f->Ew I.aw (PL P) s z f)->V (.exit 2) r s):aK FF (.loop xN) e I V:=by
 have D:=T.ok;refine aK.loop (ayV h0 I P F U R1 R2 fv fs) ?_ (n:=cz fs) ⟨0,zs0,Q,ab,X,u,y,E,q,H,M,.refl D,hF,c,λi z f h=>ab,λi z f _ a b=>d i z f a b⟩;rintro m r s⟨k,O,rfl,p,q1,q2,q4,c,p,q37,q38,g,j,M,hD,hT⟩;have bD:=g.ok;have d:=g.aw;have gg:ay aR h0 s:=T.trans' g ai (λx N e=>av (L x e));have T:=g.get D hU nU;have E:=g.get D xj nR1;have q:=g.get D tM nR2;have zH:=j.len;unfold xN;by_cases q:k<cz fs
 .have wk:=ch ((k:Int)+1) ab ab;have⟨z,H⟩:=aQ O k;have⟨f,L⟩:=aQ fs k q;have⟨t,r,e3,y⟩:=hT k z f (fq _) H L;have d:=S f (cO L);have T:=d.head.aF;have E:=d.head.params;have⟨A,hpn⟩:∃n:Nat,f.params=n:=⟨f.params.toNat,ab⟩;have⟨E,S⟩:∃n:Nat,f.aF=n:=⟨f.aF.toNat,ab⟩;obtain⟨b,T,X,T,T,X,X,X,dg,X⟩:=j.el H;have X:=dg 0 4 ag;simp[-ax] at X;rw[t,r,e3,hpn,S] at X;simp at p;rw[T,zH,M] at p;simp[p,q37,q38,q1,q,X,-ax,aH];refine bh.cut (λC=>ay aR s C/\di C s.aw (aC f.name A E z.B)) ?_ ?_
  exact⟨(ay.refl bD).var _ _,s.clock,by simp[aX,aC]⟩;rintro C⟨r,G,dy⟩;have X:=gg.trans r;have Zm:qP C z.B f.blocks:=y.mono dv X;have X:=r.aw;have lX:=r.ok.wf _ _ dy;refine bh.call (V:=lD f.name A E f.blocks C) (by simpa [aC] using YT r.ok (name:=f.name) (p:=A) (r:=E) Zm d.Hv (av d.head.blocks)) ?_;rintro _ X⟨d,y,ys,rfl,O3,X3,M3⟩;have dK:=d.get r.ok dy;have ah0:∀x,x<C.aw->¬cK y ys x:=λx N ⟨l,e⟩=>av (O3.new l x e)
  have l3:=d.aw;simp[q1];refine bh.fF (V:=λv s=>∃w,P f w/\zd f.name A C.aw y ys w X v s) (by simpa [q1,aC] using H' f (cO L) X A C.aw E y ys d.ok (g.trans (r.trans d).cm) ab ab hpn S ab ab O3 X3 M3) ?_;rintro _ y⟨w,hPr,X,y4,rfl,T4,M4⟩;have E:=T4.g;have G4:ay aR s y:=(r.trans d).trans' E ai (λx N e=>ah0 x ab e);have S:=E.get d.ok dK (ah0 _ lX);have r:=S;simp[aC] at r;simp[aC,r];refine bh.cut (λS=>ay (· =s.aw) y S/\di S s.aw [gX f.name,fc ft A,fc ft w.1,dB X.a X.l X.c]) ?_ ?_
  exact⟨(ay.refl E.ok).put ⟨_,r⟩ (kd Q),y.clock,J⟩;rintro S⟨r,y,jQ⟩;have O5:=T4.w.low E.ok r (λE e=>jZ ab);have E:ay aR s S:=G4.trans' r ai (λx N e=>ab);have d:=O5.view;rw[M4] at d;refine bh.call (V:=λv s=>ay aR S s/\v=dC (jE w.1 w.2)) (by simpa [aC] using Wp r.ok (name:=f.name) (p:=A) (r:=w.1) d (hP f (cO L) w hPr)) ?_;rintro _ N⟨y,rfl⟩;have d:=E.trans y;have W:ay (bx F.v) I N:=g.trans d.cm;have hU6:=W.get D hU nU;have akX:=W.get D xj nR1;have akY:=W.get D tM nR2;have nz:=y.get r.ok jQ;cases ak2:jE w.1 w.2
  .have A6:=j.grow bD d ai;obtain⟨E,cs6,o6,E,E,Zx,hjA6,VJ,ahs,VW⟩:=A6.el H;rw[T] at E;cases E;have E:=hU6;simp at E;rw[T,zH,M] at E;have H:=VJ 0 4 ag;simp at H;simp[q2,E,nz,q,Zx,H,q38,wk];have H:b<I.aw:=hF.cg D (fH T);have H:=bc (off:=k*4) (vs:=[cW f.name,aA ft A,aA ft w.1,bf X.a X.l X.c]) y.ok Zx;have D:=VW ⟨f.name,A,w.1,X⟩ 0 [cW f.name,aA ft A,aA ft w.1,bf X.a X.l X.c] J rfl (put N b (k*4) cs6 [cW f.name,aA ft A,aA ft w.1,bf X.a X.l X.c] o6) ⟨N.clock,J⟩;have GL7:=W.trans (H.cU (λx _ e=>e▸fH T));generalize put N b (k*4) cs6 _ o6=E at*;have hkz:k<cz O:=ab
   refine⟨cz fs-(k+1),ab,k+1,O.set k ⟨f.name,A,w.1,X⟩,Q,q,au q1,au q2,au q4,au c,by simp[p,T,zH,M],au q37,J,GL7,D,au M,λi D u p h1 C=>?_,λi D u p h1 C=>?_⟩
   .rw[fO] at h1;by_cases t:k=i;subst t;rw[bK Q,bK hkz] at h1;cases h1;rw[L] at C;cases C;have q:Ew I.aw (PL P) S ⟨f.name,A,w.1,X⟩ f:=⟨C.aw,y4,w.1,ab,O5,⟨Q,hpn.symm,Q⟩,by rw[M4];exact⟨hPr,ak2⟩⟩;exact(q.grow r.ok y (λ_ h=>h.elim)).grow y.ok H (λx e=>jZ ab)
    rw[bM t] at h1;exact((hD i D u ab h1 C).grow bD d (λ_ h=>h.elim)).grow y.ok H (λx e=>jZ ab)
   rw[fO,bM ab] at h1;exact hT i D u ab h1 C
  simp;refine bh.call (aj (mf N y.ok 10 (k:Int))) ?_;rintro _ E⟨rfl,H⟩;have q:=H.get y.ok akX;have d:=H.get y.ok akY;have N:¬R2=R1:=λe=>n12 e.symm;simp[q4,c,q,d,N];have GL7:ay (λb=>bx F.v b\/b=R1\/b=R2) I E:=(W.cU (λx _ h=>jZ h)).trans H.cm;refine bad _ _ k f w L hPr ak2 (λi u p C=>by have⟨D,y⟩:=aQ O i;obtain⟨_,F,F,_,_,_,T⟩:=hD i D u p y C;exact⟨_,T⟩) (au q4) (au c) ?_ ⟨E.clock,by simp[n12]⟩ ⟨E.clock+1,J⟩
  exact(GL7.put ⟨_,q⟩ (kd (kd (jZ Q)))).put ⟨s2,by simp[N,d]⟩ (kd (kd (kd Q)))
 .have:k=cz fs:=ab
  subst this;simp[q37,q38];exact Ga _ _ O (au q2) (au q4) (au c) g j M (λi z f a b=>hD i z f (av ((cY.mp b).1)) a b)
def JD(P:ni)(fs w:List GF):Prop:=cz w=cz fs/\∀(i:Nat)(f o:GF),fs[i]?=Z f->w[i]?=Z o->∃c,P f c/\o=⟨f.name,f.params,c.1,c.2⟩
def anD(P:ni)(fs:List GF)(k:Nat):Prop:=∃(f:GF) (c:Nat×List GB),fs[k]?=Z f/\P f c/\jE c.1 c.2=ck/\∀(i:Nat)(f:GF),i<k->fs[i]?=Z f->∃c,P f c/\jE c.1 c.2=cd
def uS(M:Nat)(h:az)(G F:SV)(u:GU):Prop:=∀(S:Nat->Prop)(s:az),ay S h s->(∀c,S c->c<M\/h.aw<=c)->uR s G F u
def uS.go{S:Nat->Prop}{G F:SV}(w:uS M h G F u)(g:ay S h s)(D:∀c,S c->c<M\/h.aw<=c):uS M s G F u:=λo C A I=>w (λc=>S c\/o c) C ((g.cU λ_ _ h=>jZ h).trans (A.cU λ_ _ h=>kd h)) λc F=>F.elim (D c) λh=>(I c h).imp id λe=>qN g.aw e
def JC(P:ni)(I:List GG)(fs:List GF)(M:Nat)(s:az)(w A:SV)(c a:Int):Prop:=
 (∃k:Nat,c=10/\a=k/\w=cM/\A=cM/\anD P fs k)\/(c=0/\a=0/\∃o,uS M s w A ⟨I,o⟩/\JD (PL P) fs o)
def amk(P:ni)(I:List GG)(fs:List GF)(h:az)(v:aa)(s:az):Prop:=
 ay aR h s/\∃(o w:SV) (c a:Int),v=.tuple #[ix ⟨[o.v,w.v]⟩,ix ⟨[fc ft c,fc ft a]⟩]/\JC P I fs h.aw s o w c a
def QM{P:ni}(W:cu h){F:SV}{d:List XF}(n:eM x7 h F d)(q:∀b,bx F.v b->M<=b)(D:cz d=cz fs)(D:∀(i:Nat)(z:XF)(f:GF),d[i]?=Z z->fs[i]?=Z f->Ew M P h z f):∃C,(∀(S:Nat->Prop)(s:az),ay S h s->(∀c,S c->c<M\/h.aw<=c)->ad (fR s) 4 s F.v C)/\JD P fs C:=by
 have⟨C,l,H⟩:=Nn (Q1:=λ(i:Nat) (g:GF)=>∀z f,d[i]?=Z z->fs[i]?=Z f->(∀(S:Nat->Prop)(s:az),ay S h s->(∀c,S c->c<M\/h.aw<=c)->fR s (x7.enc z) g)/\∃o,P f o/\g=⟨f.name,f.params,o.1,o.2⟩) (aU (cz fs)) (λi F=>by have k:i<cz fs:=OB.1 F;have⟨z,I⟩:=aQ d i;have⟨f,j⟩:=aQ fs i k;obtain⟨n0,ys,w,F,O,⟨r,F,t⟩,p⟩:=D i z f I j;refine⟨⟨f.name,f.params,w,ys.map YB.g⟩,λm D h1 A=>?_⟩;rw[I] at h1;cases h1;rw[j] at A;cases A;exact⟨λS s g V=>⟨z.B,by simp[r,F,t,aC],(O.low W g λc F=>(V c F).imp (λe=>ab) id).view⟩,(w,ys.map YB.g),p,Q⟩);rw[List.length_range] at l;have G:∀(i:Nat)(g:GF),C[i]?=Z g->∃z f,d[i]?=Z z/\fs[i]?=Z f/\(∀(S:Nat->Prop)(s:az),ay S h s->(∀c,S c->c<M\/h.aw<=c)->fR s (x7.enc z) g)/\∃o,P f o/\g=⟨f.name,f.params,o.1,o.2⟩:=by
  intro i g F;have k:i<cz fs:=by rw[<-l];exact(cY.mp F).1
  have⟨z,I⟩:=aQ d i;have⟨f,j⟩:=aQ fs i k;exact⟨z,f,I,j,H i i g (List.getElem?_range k) F z f I j⟩
 refine⟨C,λS s F V=>(n.grow W F (λb j e=>by have:=q b j;have:=V b e;have:=n.cg W j;omega)).view ab (λi z g h1 A=>?_),l,λi f l h1 A=>?_⟩;have⟨m,f,a,b,c,_⟩:=G i g A;rw[h1] at a;cases a;exact c S s F V;have⟨m,D,a,b,_,d⟩:=G i l A;rw[h1] at b;cases b;exact d
def Y9(z:cu h){P:ni}{G F:SV}(D:uR h G F u)(Ld:cz u.globals<=10)(O:∀k∈u.globals,cz k.init<=1048576)(jw:cz u.funcs<=10)(X:∀f∈u.funcs,iv f)(hP:∀f∈u.funcs,∀C,P f C->Y1 C.2)(H':∀f∈u.funcs,∀(h1:az)(p n0 t:Nat)(B:SV)(ys:List YB),cu h1->ay aR h h1->n0<=h1.aw->h.aw<=n0->f.params=p->f.aF=t->p<=t->t<1000000->FZ h1 n0 B ys->xS B ys->ys.map YB.g=f.blocks->fh FF fv [ix ⟨aC f.name p t B⟩] h1 (λv s=>∃C,P f C/\zd f.name p n0 B ys C h1 v s)):aY FF 31 [ix ⟨[G.v,F.v]⟩,fv] h (amk P u.globals u.funcs h):=by
 have⟨ys,L,j,q⟩:=atv D.1;have⟨N,H,V,hZ⟩:=atr D.2;refine aY.of RY ?_;unfold G2;have D:¬h.aw=h.aw+1:=ab
 have d:¬h.aw=h.aw+1+1:=ab
 simp[D,d];refine bh.cut (λh1=>ay aR h h1/\(di h1 h.aw [G.v,F.v])/\(di h1 (h.aw+1) [dB K 0 0,dB K 0 0])/\(di h1 (h.aw+1+1) [fc ft 0,fc ft 0])) ?_ ?_;exact⟨(((ay.refl z).new _ _).new _ _).new _ _,⟨0,by simp[D,d]⟩,⟨0,J⟩,⟨0,J⟩⟩;rintro h1⟨D,⟨o,l⟩,⟨d,g⟩,⟨s2,m⟩⟩;have d:=D.ok.wf _ _ m;refine bh.call (V:=lz FW h1 ys) (aj (mQ FW (bytes:=48) nO Q ag D.ok (j.cm z D) ab)) ?_;rintro _ d⟨j,c,rfl,b,A,_⟩;have T:=j.get D.ok l;have l:=T;simp at l;have S:=j.get D.ok g;have U:=j.get D.ok m;have T:=b.len;simp[l];refine aK.cut (λm=>ay (· =h.aw) d m/\di m h.aw [c.v,F.v]) ?_ ?_
 exact⟨(ay.refl j.ok).put ⟨_,l⟩ (kd Q),d.clock,J⟩;rintro m⟨l,F,g⟩;have F:=j.aw;have F:=D.trans j;have E:ay aR h m:=F.trans' l ai (λx m e=>ab);have n:∀x,x<h1.aw->¬bx c.v x:=λx m e=>av (A x e)
 have F:=b.grow j.ok l (λb w e=>av (A b w));have M:=l.get j.ok S ab;have S:=l.get j.ok U ab;refine Pj (fv:=fv) (R1:=h.aw+1) (R2:=h.aw+1+1) (f:=cM) z E g (n _ ab) F (λb w=>by have:=A b w;have:=D.aw;omega) ⟨L,λi y k a b=>⟨(q i y k a b).1,(q i y k a b).2.1⟩⟩ (λi y k a b=>(q i y k a b).2.2) Ld O J J J J J (by simp[T,L]) J ?_;intro T q T q1 F q4 q5 I O T hD4;have L:ay aR h q:=E.trans' I ai (λx m e=>by have:=A x e;have:=D.aw;omega);have E:=I.get l.ok g (n _ ab);have aBi:=I.get l.ok M (n _ ab);have aBl:=I.get l.ok S (n _ ab);have n:=E;simp at n;simp[F,n];refine bh.call (V:=lz x7 q N) (aj (mQ x7 (bytes:=56) qt Q ag I.ok (V.cm z L) ab)) ?_;rintro _ S⟨W,n,rfl,M,j,_⟩;have V:=W.get I.ok E;have g:=V;simp at g;have V:d.aw<=q.aw:=qN l.aw I.aw;have zH:=M.len;have V:=O.cm I.ok W;simp[F,g];refine aK.cut (λd=>ay (· =h.aw) S d/\di d h.aw [c.v,n.v]) ?_ ?_
 exact⟨(ay.refl W.ok).put ⟨_,g⟩ (kd Q),S.clock,J⟩;rintro d⟨g,S,U⟩;have S:=W.aw;have E:ay aR h d:=(L.trans W).trans' g ai (λx m e=>ab);have S:ay (· =h.aw) q d:=W.cm.trans g;have d:∀x,x<q.aw->¬bx n.v x:=λx m e=>av (j x e)
 have hF6:=M.grow W.ok g (λb w e=>av (j b w));have hG6:=V.grow W.ok g (λb w e=>av (A b w));have M:=S.get I.ok aBi ab;have L:=S.get I.ok aBl ab;have S:=D.aw;refine Vp (R1:=h.aw+1) (R2:=h.aw+1+1) (U:=h.aw) (zs0:=N) (fs:=u.funcs) z E U M L ab (d _ ab) (d _ ab) (d _ ab) hF6 (λb w=>av (j b w)) H hZ jw X hP (λf S h1 p n0 t B N a1 a2 a3 X a5 a6 D z a9 X V=>H' f S h1 p n0 t B N a1 (E.trans' a2 ai (λx m e=>av (j x e))) a3 (av E.aw) a5 a6 D z a9 X V) (au q1) (au F) (au q4) (au q5) J (by simp[zH,H]) J ?_ ?_
 rintro t F a f C X V H b4 p z D⟨N,N⟩ ⟨S,S⟩;simp[p,z,N,S];exact⟨E.trans' D ai (λx m e=>by rcases e with e|e|e;have:=j x e;omega;omega;omega),cM,cM,10,a,Q,jZ ⟨a,Q,Q,Q,Q,f,C,X,V,H,b4⟩⟩
 .intro t F t t p z D N V X;have hU7:=D.get g.ok U (d _ ab);have H:=D.get g.ok M (d _ ab);have S:=D.get g.ok L (d _ ab);have d:=hU7;simp at d;have L:∀b,bx c.v b->¬bx n.v b:=λb w h=>by have:=O.cg I.ok w;have:=j b h;omega
  have O:=hG6.grow g.ok D L;simp[t,p,z,d,H,S];have d:=((ay.refl D.ok).put (S:=λx=>x=h.aw+1\/x=h.aw+1+1) (off:=0) (vs:=[bf c.a c.l c.c,bf n.a n.l n.c]) ⟨_,H⟩ (kd (jZ Q))).put (b:=h.aw+1+1) (off:=0) (cs:=[fc ft 0,fc ft 0]) (o:=0) (vs:=[fc ft 0,fc ft 0]) ⟨s2,au S⟩ (kd (kd Q));have S:=g.aw;generalize put (put F _ _ _ _ _) _ _ _ _ _=h8 at d⊢;have F:∀x,x=h.aw+1\/x=h.aw+1+1->x<h1.aw:=λx e=>ab
  have S:=N.grow D.ok d (λb w e=>av (j b w));have⟨F,N,H⟩:=QM (P:=PL P) (M:=h1.aw) d.ok S (λb w=>av (j b w)) V (λi z f a b=>by have⟨n0,ys,S,V,r⟩:=(X i z f a b).grow D.ok d (λx e=>jZ ab);exact⟨n0,ys,S,ab,r⟩);have f:=O.grow D.ok d (λb w e=>av (A b w));refine⟨(E.trans' D ai (λx m e=>av (j x e))).trans' d ai (λx m e=>ab),c,n,0,0,J,kd ⟨Q,Q,F,λS O n F=>?_,H⟩⟩;have E:∀c,S c->c<h1.aw\/h8.aw<=c:=λc m=>(F c m).imp (λe=>ab) id;refine⟨(f.grow d.ok n (λb w e=>by have:=A b w;have:=E b e;have:=f.cg d.ok w;omega)).view T.1.symm (λi y k a b=>?_),N S O n E⟩;have⟨S,t⟩:=hD4 i y k a b;have⟨f,O⟩:=T.2 i y k a b;have b:=l.aw;have l:∀c,dt y.I=Z c->c<q.aw:=λc e=>S.lt I.ok e;have q:=(((S.cm I.ok W).go W.ok g (λc m e=>av (t c e))).go g.ok D (λc m e=>by have:=j c m;have:=l c e;omega)).go D.ok d (λc m e=>av (t c e));have p:=q.go d.ok n (λc m e=>by have:=t c e;have:=E c m;have:=q.lt d.ok e;omega);exact⟨y.I,by simp[f,O],p.view Q (λi x y a c=>by rw[a] at c;cases c;rfl)⟩
def DoZ(P:ni)(u:GU)(o C:Int)(h:az)(v:aa)(s:az):Prop:=
 ay aR h s/\∃(w A:SV) (c a:Int),v=.tuple #[ix ⟨[w.v,A.v]⟩,ix ⟨[fc ft c,fc ft a]⟩]/\((o≠0/\c=o/\a=C/\w=cM/\A=cM)\/(o=0/\C=0/\Ex u/\JC P u.globals u.funcs h.aw s w A c a))
def JC.go{S:Nat->Prop}{P:ni}{I:List GG}{fs:List GF}{M:Nat}{h s:az}{G F:SV}{c a:Int}(w:JC P I fs M h G F c a)(g:ay S h s)(D:∀c,S c->c<M\/h.aw<=c):JC P I fs M s G F c a:=
 w.imp id λ⟨h1,A,o,c,C⟩=>⟨h1,A,o,c.go g D,C⟩
def JC.low{P:ni}{M o:Nat}{G F:SV}{c a:Int}(w:JC P I fs M h G F c a)(l:o<=M):JC P I fs o h G F c a:=
 w.imp id λ⟨h1,C,A,F,D⟩=>⟨h1,C,A,λS s g b=>F S s g λc g=>(b c g).imp (λe=>ab) id,D⟩
def H6(xs:List Int)(y:YB):YB:= {y with ps:=y.ps.map (λq=>(Eu xs q.1,q.2)),ls:=y.ls.map (λq=>(qL xs q.1,q.2)),on:=bq xs y.on}
def aqC(xs:List Int)(y:YB):(H6 xs y).g=Aw xs y.g:=by simp[H6,YB.g,Aw,bL,n4]
def RrB(h1:az)(n0 G R:Nat)(L B:SV)(ys:List YB)(xs:List Int)(name:ByteArray)(p r:Int)(m:Nat)(e:Env)(s:az):Prop:=
 ∃(i:Nat) (a:List YB),m=cz ys-i/\i<=cz ys/\bY e 1=L.v/\bU e 4 R/\bU e 5 G/\bC e 6 i/\cV h1 s n0 B ys B a/\a=(ys.take i).map (H6 xs)++ys.drop i
def Xk(dv:cu h0)(H:ay aR h0 h1){n0 G R c:Nat}(F:h0.aw<=n0)(hn:n0<=h1.aw)(hL:bp encI h0 L.v xs)(xl:cz xs<1000000)(W:FZ h1 n0 B ys)(x:xS B ys)(k:∀y∈ys,Kr y.g)(a:cz ys<1000000)(E:eR h1 G (aC name p r B) c)(f:¬cK B ys G)(X:bY e 1=L.v)(c:bU e 4 R)(n:bU e 5 G)(j:bC e 6 0)(C:∀U s,bU U 4 R->bU U 5 G->cV h1 s n0 B ys B (ys.map (H6 xs))->V (.exit 0) U s):aK FF (.loop jM) e h1 V:=by
 have v:=H.ok;have g:=W.A.len;refine aK.loop (RrB h1 n0 G R L B ys xs name p r) ?_ (n:=cz ys) ⟨0,ys,Q,ab,X,c,n,j,.refl W v,J⟩;rintro m U s⟨i,O,rfl,n,b,M,U,j,T,S⟩;have a:=T.g.ok;have N:=v.wf _ _ E;have D:=T.g.get v E f;have P:¬cK B O G:=λe=>(T.s _ e).elim f ab;have c:cz O=cz ys:=by rw[S];simp;omega
 simp[aC] at D;rw[g] at D;unfold jM;by_cases P:i<cz ys
 .have wi:=ch ((i:Int)+1) ab ab;have⟨y,c⟩:=aQ ys i P;have⟨t,MR⟩:=Aj (f:=H6 xs) c S;have z:=k y (cO c);obtain⟨bB,k,d,N,N,n,c,k,k,c⟩:=T.w.A.el t;have X:=k 0 6 ag;simp[-ax] at X;rw[N] at D;simp[b,M,U,j,D,aB D,P,X,aH,-ax];have k:ay aR s (put (aJ s [dB K 0 0,dB K 0 0,fc ft 0,dC cd,fc ft 0,dB K 0 0] 0) s.aw 0 [dB K 0 0,dB K 0 0,fc ft 0,dC cd,fc ft 0,dB K 0 0] (eF.enc y) 0):=(ay.refl a).var _ _;have n:(put (aJ s [dB K 0 0,dB K 0 0,fc ft 0,dC cd,fc ft 0,dB K 0 0] 0) s.aw 0 [dB K 0 0,dB K 0 0,fc ft 0,dC cd,fc ft 0,dB K 0 0] (eF.enc y) 0).tr.get s.aw=Z (.bZ (eF.enc y) cd 0 s.clock):=by rw[aZ];rfl
  simp only[Hr,SV.AA] at k n;generalize put (aJ s _ 0) s.aw 0 _ _ 0=h2 at*;have T2:=T.cm k;have X:¬cK B O s.aw:=λ⟨l,e⟩=>av (T.w.lt a e)
  have d:=T.g.aw;have d:RN h0 h2 n0 B O L xs i y s.aw:=⟨dv,H.trans' T2.g ai (λc hc ⟨l,e⟩=>av (W.new l c e)),F,av T2.g.aw,hL,xl,T2.w,T2.x x,t,⟨_,aj n⟩,X⟩;refine aeX d (by have:=z.lp;simp[YB.g] at this;omega) (λq a=>av (z.lr q.1 (KA a))) (au b) J J ?_;intro x X X F;have t:=d.aw F rfl;simp;have H:bY x 1=L.v:=X.at (au b);have k4:=X.at (t:=4) (ak M);have k5:=X.at (t:=5) (ak U);have k6:=X.at (t:=6) (ak j);have b:bU x 7 s.aw:=X.at J;refine aeW t (by have:=z.ll;simp[YB.g] at this;show cz y.ls<1000000;omega) (λq a=>av (z.la q.1 (KA a))) (au H) (au b) J ?_;intro z a x d;have o:=t.aw d rfl;simp only[xh] at d o;have p1:bY z 1=L.v:=x.at (au H);have p4:=x.at (t:=4) (ak k4);have X:=x.at (t:=5) (ak k5);have p6:=x.at (t:=6) (ak k6);have H:=x.at (t:=7) (ak b);have⟨z,t⟩:=o.hX;simp at t;have z:=T2.trans (F.trans d);have A:=z.g.get v E f;have E:¬cK B _ G:=λe=>(z.s _ e).elim f ab;have b:s.aw<h2.aw:=k.ok.wf _ _ n;have x:=o.oX;simp[aC] at A;rw[g,N] at A;simp[p1,H,t];refine bh.call (V:=λu b=>ay aR a b/\u=ix ⟨[dC (bq xs y.on).1,fc ft (bq xs y.on).2]⟩) (aj (xv o.g.ok (o.hL.cm o.dv o.g) xl y.on)) ?_;rintro _ b⟨n,rfl⟩;have g:=n.get o.g.ok t;have a:=n.get o.g.ok A;have t:¬G=s.aw:=ab
  simp[H,g];have f:=bc (off:=3) (vs:=[dC (bq xs y.on).1,fc ft (bq xs y.on).2]) n.ok g;have F:(put b s.aw 3 [dB y.P.a y.P.l y.P.c,dB y.L.a y.L.l y.L.c,fc ft y.kind,dC y.on.1,fc ft y.on.2,dB y.T.a y.T.l y.T.c] [dC (bq xs y.on).1,fc ft (bq xs y.on).2] 0).tr.get s.aw=Z (.bZ (eF.enc (H6 xs y)) cd 0 b.clock):=by rw[aZ];rfl
  simp only[Hr,SV.AA] at F;have I:=(z.cm n).go f (λc e=>⟨ab,by rw[e];exact x⟩);have g:=f.get n.ok a t;generalize put b s.aw 3 _ _ 0=h6 at*;have n:i<cz (O.set i {y with ps:=y.ps.map (λq=>(Eu xs q.1,q.2)),ls:=y.ls.map (λq=>(qL xs q.1,q.2))}):=by simp;omega
  have w:(O.set i {y with ps:=y.ps.map (λq=>(Eu xs q.1,q.2)),ls:=y.ls.map (λq=>(qL xs q.1,q.2))})[i]?=Z {y with ps:=y.ps.map (λq=>(Eu xs q.1,q.2)),ls:=y.ls.map (λq=>(qL xs q.1,q.2))} :=by rw[fO,bK Q,bK ab]
  obtain⟨a,k,b,a,a,v,_,d,_,n⟩:=I.w.A.el w;rw[N] at a;cases a;have f:=d 0 6 ag;simp at f;simp[X,p6,H,g,F,P,v,f,wi];have H:=bc (off:=i*6) (vs:=eF.enc (H6 xs y)) I.g.ok v;have E:=n (H6 xs y) 0 (eF.enc (H6 xs y)) J (by simp[aX]) (put h6 bB (i*6) k (eF.enc (H6 xs y)) b) ⟨h6.clock,J⟩;simp only[Hr,SV.AA] at H E;have d:=I.w.at w;have k:=I.del (k:=.P) (y':=H6 xs y) id hn w (λh=>h) (λ_ _ e=>e) (λ_=>Iff.rfl) (λl c e=>e) (H.cU λc _ e=>kd (by rw[e];exact cD N)) E (λno=>by
   have E:BZ _ _:=d.go I.g.ok H λc l hc e=>by have:=I.w.tQ K (Z (i,l)) c (by rw[hc];exact cD N) (by rw[cC w];exact e);cases this
   exact⟨E.P,E.L,E.T,E.ps,E.ls⟩)
  rw[xh] at k;refine⟨cz ys-(i+1),ab,i+1,O.set i (H6 xs y),Q,P,au p1,au p4,au X,J,k,MR⟩
 .have:i=cz ys:=ab
  subst this;rw[mO,bE,Bx] at S;simp[U,j,D,aB D,-ax];exact C _ _ (au M) (au U) (by rw[<-S];exact T)
def PG(g:cu h0)(a:ay aR h0 h){name:ByteArray}{p r:Int}(i:qP h0 B bs)(k:∀b∈bs,Kr b)(D:cz bs<100000)(n:bp encI h0 L.v xs)(s:cz xs<1000000):aY FF 96 [ix ⟨aC name p r B⟩,L.v] h (lD name p r (bs.map (Aw xs)) h):=by
 have d:=a.ok;have c:¬h.aw=h.aw+1:=ab
 refine aY.of BI ?_;unfold rh;simp[aC,c];refine bh.cut (λh1=>ay aR h h1/\(di h1 (h.aw+1) [gX ⟨⟨[]⟩⟩,fc ft 0,fc ft 0,dB K 0 0])) ?_ ?_;exact⟨((ay.refl d).new _ _).new _ _,⟨0,J⟩⟩;rintro h1⟨C,⟨d,d⟩⟩;have c:=C.ok.wf _ _ d;refine bh.call (V:=lD name p r bs h1) (by simpa [aC] using ui g (a.trans C) (name:=name) (p:=p) (r:=r) i k D) ?_;rintro _ A⟨o,D,ys,rfl,c,i,f⟩;have j:=o.get C.ok d;have nR:¬h.aw+1=A.aw:=av o.aw
 simp[aC];refine aK.cut (λd=>ay aR A d/\d.aw=A.aw+1/\di d A.aw (aC name p r D)) ⟨(ay.refl o.ok).var _ _,J,A.clock,by simp[aX,aC]⟩ ?_;rintro d⟨I,d,d,m⟩;have q:=c.cm o.ok I;have d:=a.aw;have d:=C.aw;have d:=o.aw;have t:=I.get o.ok j;have d:¬cK D ys A.aw:=λ⟨l,e⟩=>av (c.lt o.ok e)
 have j:¬cK D ys (h.aw+1):=λ⟨l,e⟩=>av (c.new l _ e)
 refine Xk (G:=A.aw) (R:=h.aw+1) g (((a.trans C).trans o).trans I) (n0:=h1.aw) ab ab n s q i (λy q=>k y.g (by rw[<-f];exact KA q)) (by have:=congrArg bW f;simp at this;omega) m d J J J J ?_;intro q k q n w;have a:=w.g.get I.ok m d;have d:=w.g.get I.ok t j;simp[aC] at a;simp[q,n,a,d];have a:=bc (off:=0) (vs:=[gX name,fc ft p,fc ft r,D.v]) w.g.ok d;simp at a;have W:ay aR h k:=((C.trans o).trans I).trans' w.g ai (λd k ⟨l,e⟩=>av (c.new l d e));have c:¬cK D (ys.map (H6 xs)) (h.aw+1):=λe=>(w.s _ e).elim j ab;exact⟨W.trans' a ai (λd k e=>ab),D,ys.map (H6 xs),by simp[aC],(w.w.go w.g.ok a λd l e d=>by rw[e] at d;exact c ⟨l,d⟩).cU ab,w.x i,by rw[bL,<-f,bL];exact cc λy _=>aqC xs y⟩
structure af1(p:Nat)(bs:List GB):Prop where
 hp:p<1000
 yl:cz bs<=100
 pl:∀b∈bs,cz b.bz<=300
 ll:∀b∈bs,cz b.list<=300
 al:∀b∈bs,∀x∈b.list,cz x.args<=100
 rl:∀b∈bs,∀q∈b.bz,cz q.row<50000
 l1:∀j,cz (tT (ku p) (bs.take j))<50000
 l2:∀i b j,bs[i]?=Z b->cz (Es (By (tT (ku p) bs) (bs.take i)) (b.bz.take j))<50000
 l3:cz (HI p bs)<50000
def aaP(c:cu h){name:ByteArray}{p n0:Nat}{r:Int}(W:FZ h n0 B ys)(M:af1 p (ys.map YB.g)):aY FF 95 [ix ⟨aC name p r B⟩] h (λv s=>ay aR h s/\∃L:SV,v=L.v/\bm encI h.aw s L.v (HI p (ys.map YB.g))):=
 aeM c W M.hp (aj M.yl) M.pl M.ll M.al M.rl M.l1 M.l2
def ahS(o:Ord (cz bs) bw)(D:cz bs<50)(a:∀b∈bs,Kr b):∀b∈bu bs bw,Kr b:=λb c=>by unfold bu at c;obtain⟨k,C,rfl⟩:=kC.1 c;have⟨X,w⟩:=aQ bs k (o.lt k C);have z:=a X (cO w);have G:=o.len;rw[w];refine⟨by simpa [eW] using z.lp,z.ll,λp A=>?_,z.la,by simpa [eW] using z.lt⟩;obtain⟨q,_,rfl⟩:=kC.1 A;have:=Jr (fS (aV (nI bw)) ((aN bs k).zip q.row)) (cz bw);simp only[pd];omega
def fT(p:Nat)(bs:List GB):Nat×List GB:=(cz (HI p (bu bs (eH bs))),(bu bs (eH bs)).map (Aw (HI p (bu bs (eH bs)))))
def Xd(g:cu h0)(c:ay aR h0 h){name:ByteArray}{p:Nat}{r:Int}(i:qP h0 B bs)(E:EB bs)(d:∀b∈bs,Kr b)(M:af1 p (bu bs (eH bs))):aY FF 41 [ix ⟨aC name p r B⟩] h (lD name p (fT p bs).1 (fT p bs).2 h):=by
 have j:=c.ok;have D:¬h.aw=h.aw+1:=ab
 have k:¬h.aw=h.aw+1+1:=ab
 have o:=E.HV.o;have q:=o.len;have q:=E.n50;have n:cz (bu bs (eH bs))=cz (eH bs):=by simp[bu]
 have n:=ahS o q d;refine aY.of D9 ?_;unfold u0;simp[aC,D,aI,bj,eY,-ax];refine bS.cut (λh1=>ay aR h h1/\h1.aw=h.aw+3/\h1.tr.get h.aw=Z (.bZ (aC name p r B) cd 0 0)/\(di h1 (h.aw+1) [gX ⟨⟨[]⟩⟩,fc ft 0,fc ft 0,dB K 0 0])/\h1.tr.get (h.aw+2)=Z (.bZ [gX ⟨⟨[]⟩⟩,fc ft 0,fc ft 0,dB K 0 0] cd 0 0)) ?_ ?_;exact⟨((((ay.refl j).new _ _).new _ _).tick).new _ _,J,by simp[aC,D,k],⟨0,J⟩,J⟩;rintro h1⟨G,k,j,⟨q,y⟩,k⟩;have D:=c.aw;refine bS.call (V:=λv s=>ay aR h1 s/\∃L:SV,v=L.v/\bm encI h1.aw s L.v (nI (eH bs))) (by simpa [aC] using Kd G.ok (name:=name) (p:=p) (r:=r) (i.mono g (c.trans G)) E.ends E.n1) ?_;rintro _ f⟨D,O,rfl,m⟩;have W:=(c.trans G).trans D;have c:=D.get G.ok j;have j:=D.get G.ok y;have y:=D.get G.ok k;simp[aC] at c;simp[c];refine bS.call (V:=lD name p r (bu bs (eH bs)) f) (by simpa [aC] using Gq W.ok (.refl W.ok) (name:=name) (p:=p) (r:=r) (i.mono g W) E d m.sl ab o.lt) ?_;rintro _ g⟨c,d,ys,rfl,i,m,I⟩;have m:=c.get D.ok j;have f:=c.get D.ok y;have k:h.aw+2=h.aw+1+1:=Q;rw[k] at f;simp[aC,f];have A:=bc (off:=0) (vs:=[gX name,fc ft p,fc ft r,d.v]) c.ok f;have k:(put g (h.aw+1+1) 0 [gX ⟨⟨[]⟩⟩,fc ft 0,fc ft 0,dB K 0 0] [gX name,fc ft p,fc ft r,d.v] 0).tr.get (h.aw+1+1)=Z (.bZ [gX name,fc ft p,fc ft r,d.v] cd 0 g.clock):=by rw[aZ];rfl
 simp only[SV.AA] at A k;have u:=A.get c.ok m ab;have d:=G.aw;have d:=D.aw;have j:=i.go c.ok A (λd l e f=>av (i.new l d f));have i:=(G.trans D).trans c;have z:ay aR h _:=i.trans' A ai (λd H e=>ab);generalize put g (h.aw+1+1) 0 _ _ 0=h4 at*;refine bh.call (V:=λv s=>ay aR h4 s/\∃L:SV,v=L.v/\bm encI h4.aw s L.v (HI p (bu bs (eH bs)))) (by rw[<-I];simpa [aC] using aaP A.ok (name:=name) (r:=r) j (by rw[I];exact M)) ?_;rintro _ i⟨C,L,rfl,m⟩;have D:=j.cm A.ok C;have g:=C.get A.ok k;have y:=C.get A.ok u;have k:cz (HI p (bu bs (eH bs)))<1000000:=by exact OD M.l3 ag
 simp[g];refine bh.call (V:=lD name p r ((bu bs (eH bs)).map (Aw (HI p (bu bs (eH bs))))) i) (by rw[<-I];simpa [aC] using PG C.ok (.refl C.ok) (name:=name) (p:=p) (r:=r) D.view (by rw[I];exact n) (by rw[I];omega) (by rw[I];exact m.sl) (by rw[I];exact k)) ?_;rintro _ n⟨D,w,u,rfl,k,F,t⟩;have i:=D.get C.ok g;have j:=D.get C.ok y;have g:L.l=cz (HI p (bu bs (eH bs))):=by have⟨a,y,e,_⟩:=id m.sl;simp at e;exact e.2.1
 simp[aC,i,j,g];have g:=(((ay.refl D.ok).put (S:=λx=>x=h.aw+1\/x=h.aw+1+1) (off:=0) (vs:=[cW name,aA ft p,aA ft r,bf w.a w.l w.c]) ⟨_,i⟩ (kd (kd Q))).put (b:=h.aw+1+1) (off:=2) (cs:=[cW name,aA ft p,aA ft r,bf w.a w.l w.c]) (o:=0) (vs:=[aA ft (HI p (bu bs (eH bs))).length]) ⟨n.clock,by simp[aX]⟩ (kd (kd Q))).put (b:=h.aw+1) (off:=0) (cs:=[cW ⟨⟨[]⟩⟩,aA ft 0,aA ft 0,bf K 0 0]) (o:=0) (vs:=[cW name,aA ft p,aA ft (HI p (bu bs (eH bs))).length,bf w.a w.l w.c]) ⟨q,au j⟩ (kd (jZ Q));generalize put (put (put n _ _ _ _ _) _ _ _ _ _) _ _ _ _ _=h7 at g⊢;have n:=C.aw;have n:=A.aw;have n:=c.aw;exact⟨((z.trans C).trans D).trans' g ai (λd H e=>ab),w,u,by simp[aC,fT],(k.go D.ok g λd l e f=>av (k.new l d f)).cU ab,F,t⟩
def ar7(h1:az)(S:Nat)(bs:List GB)(m:Nat)(e:Env)(s:az):Prop:=
 ∃b:Nat,b=m/\b<=cz bs/\bU e 1 S/\bC e 3 ((b:Int)-1)/\ay aR h1 s/\∀x,b<=x->xY bs x
def ar8(bs:List GB)(h:az)(v:aa)(s:az):Prop:=ay aR h s/\((v=fc ft (-1)/\∀x,xY bs x)\/∃(b t:Nat) (B T:GB),v=fc ft b/\dE bs b t B T)
def WT(O:cu h0)(N:ay aR h0 h){name:ByteArray}{p r:Int}(y:qP h0 B bs)(E:EB bs):aY FF 40 [ix ⟨aC name p r B⟩] h (ar8 bs h):=by
 have M:=ad.len y;have S:=E.n50;have D:=N.ok;refine aY.of Ee ?_;unfold vd;have b:=ch ((cz bs:Int)-1) ab ab;simp[aC,M,b];refine aK.cut (λh1=>ay aR h h1/\di h1 h.aw (aC name p r B)) ⟨(ay.refl D).new _ _,0,by simp[aC,M]⟩ ?_;rintro h1⟨T,f,z⟩;refine aK.loop (ar7 h1 h.aw bs) ?_ (n:=cz bs) ⟨cz bs,Q,ab,J,J,.refl T.ok,λx H t S T' c=>av ((cY.mp c.hb).1)⟩;rintro m e s⟨b,rfl,F,D,F,g,d⟩;have bD:=g.ok;have X:=(N.trans T).trans g;have w:=g.get T.ok z;simp[aC] at w;unfold rM;by_cases N:b=0
 subst N;simp[F];exact⟨T.trans g,jZ ⟨Q,λx=>d x ab⟩⟩
 .obtain⟨c,rfl⟩:∃c,b=c+1:=⟨b-1,ab⟩;have o:bY e 3=fc ft (c:Int):=by rw[F];congr 1;omega
  have N:=ch ((c:Int)-1) ab ab;have⟨S,G⟩:=aQ bs c;have k:=cO G;obtain⟨f,Sg,b,fD,j,_,⟨P,L,T',rfl,b,i,f⟩,oB,F⟩:=ad.later O y G;have b:=F s X 2 4 ag;simp[-ax] at b;rw[fD,M] at w;have z:(0:Int)<=c:=ab
  have next:(∀u U V,¬dE bs c u U V)->∀x,c<=x->xY bs x:=λF x H=>by by_cases e:x=c;rw[e];exact F;exact d x ab
  have A:∀(F:Env)(d:az),bU F 1 h.aw->bC F 3 ((c:Int)-1)->ay aR h1 d->(∀u U V,¬dE bs c u U V)->∃m,m<c+1/\ar7 h1 h.aw bs m F d:=λF d d F a3 i=>⟨c,ab,c,Q,ab,d,F,a3,next i⟩;have j:c<cz bs:=ab
  rcases E.kind S k with⟨i,C⟩|⟨i,t,C⟩|⟨i,t,u,C,_⟩;simp[D,o,z,w,aB w,j,b,i,N,aH,aI,-ax];exact A _ _ (au D) J ((g.var _ _).tick) (λu U V d=>by have:=d.k2;have:=d.hb;rw[G] at this;cases this;omega)
  .obtain⟨F,F⟩:=E.to S k t (by rw[C];simp);obtain⟨u,rfl⟩:∃u:Nat,t=u:=⟨t.toNat,ab⟩;have F:u<cz bs:=ab
   have qg:T'.l=1:=by have:=ad.len f;rw[C] at this;simpa using this
   obtain⟨k,k,k,BO,_,_,k,oT,Ge⟩:=ad.later O f (i:=0) (x:=(u:Int)) (by rw[C];rfl);cases k;have I:=Ge s X 0 1 ag;simp[-ax] at I;have⟨V,hV⟩:=aQ bs u F;obtain⟨f,f,k,k,_,_,⟨P2,L2,T2,rfl,f,sL2,sT2⟩,oB2,Ab⟩:=ad.later O y hV;rw[fD] at k;cases k;have rd2:=Ab s X 0 1 ag;simp[-ax] at rd2;have hP2:=ad.len f;rw[BO,qg] at b;have ZH:=X.cg oT;have OO:=X.cg oB;have oS:=bD.cg w;by_cases e1:u=c
   subst e1;simp[D,o,z,w,aB w,j,b,I,i,N,ZH,aH,cn,bj,aI,-ax];exact A _ _ (au D) J ((g.var _ _).tick) (λa U V d=>by have:=d.hb;rw[G] at this;cases this;have:=d.to;rw[C] at this;simp at this;exact d.ne ab);have Ux:((u:Int) !=c)=ck:=by simp;omega
   rcases k:V.bz with _|⟨q,l⟩
   .have Kc:P2.l=0:=by rw[hP2,k];rfl
    simp[D,o,z,w,aB w,j,F,b,I,rd2,Kc,i,Ux,ZH,OO,oS,aH,cn,bj,aI,-ax];refine bS.cut (λf=>ay aR s f) ((ay.refl bD).var _ _).tick ?_;intro f g2;refine bS.call (V:=λv s=>ay aR f s/\∃L:SV,v=L.v/\bm encI f.aw s L.v (aN bs u)) (by simpa [aC,fD,M] using C6 g2.ok (name:=name) (p:=p) (r:=r) (y.mono O (X.trans g2)) ab (λx H=>av (E.two H)) (u:Int)) ?_;rintro _ y⟨M,L,rfl,X⟩;have y:L.l=cz (aN bs u):=by have⟨a,H,e,_⟩:=id X.sl;simp at e;exact e.2.1
    have O:=(g.trans g2).trans M;by_cases X:cz (aN bs u)=1;simp[y,X,o];exact⟨T.trans O,kd ⟨c,u,S,V,Q,G,hV,i,C,e1,k,ab⟩⟩
    .have M:((cz (aN bs u):Int)==1)=cd:=fP ab;simp[y,X,M,o,N];exact A _ _ (au D) J O (λa U W d=>by
      have:=d.hb;rw[G] at this;cases this;have:=d.to;rw[C] at this;simp at this;have y:u=a:=ab
      subst y;have f:(c:Int)∈aN bs u:=cJ.2 ⟨c,Q,S,G,by rw[C];simp⟩;have:=d.one;have:=List.length_pos_of_mem f;omega)
   have⟨n,S⟩:∃n,n=cz l+1:=⟨_,Q⟩;have Kc:P2.l=n:=by rw[hP2,k,S];rfl
   have O:¬n=0:=ab
   have M:((n:Int)==0)=cd:=fP ab;simp[D,o,z,w,aB w,j,F,b,I,rd2,Kc,i,N,Ux,O,M,ZH,OO,oS,aH,cn,bj,aI,-ax];exact A _ _ (au D) J ((g.var _ _).tick) (λa U W d=>by
    have:=d.hb;rw[G] at this;cases this;have:=d.to;rw[C] at this;simp at this;have y:u=a:=ab
    subst y;have:=d.ht;rw[hV] at this;cases this;have:=d.ph;rw[k] at this;cases this)
  simp[D,o,z,w,aB w,j,b,i,N,aH,aI,-ax];exact A _ _ (au D) J ((g.var _ _).tick) (λu U V d=>by have:=d.k2;have:=d.hb;rw[G] at this;cases this;omega)
def iZ(t b:Int)(e:Int×(Bool×Int)):Int×(Bool×Int):=if e.1=t then(b,e.2) else e
def JnE(h1:az)(E:SV)(t b:Int)(C:List (Int×(Bool×Int)))(e:Env)(m:Nat)(a:Env)(s:az):Prop:=
 ∃(j:Nat) (fs:List (Int×(Bool×Int))),m=cz C-j/\j<=cz C/\aG ([10]++(aU 18).map (· +54)) e a/\bC a 10 j/\ay (λc=>dt E=Z c) h1 s/\eM iF s E fs/\fs=(C.take j).map (iZ t b)++C.drop j
def Z2(D:cu h1){t b:Int}(A:eM iF h1 E C)(U:cz C<1000000)(u:bC e 1 b)(H:bC e 5 t)(L:bY e 9=E.v)(W:bC e 10 0)(N:∀l s,aG ([10]++(aU 18).map (· +54)) e l->ay (λc=>dt E=Z c) h1 s->eM iF s E (C.map (iZ t b))->V (.exit 4) l s):aK FF (.loop j7) e h1 V:=by
 have T:=A.len;refine aK.loop (JnE h1 E t b C e) ?_ (n:=cz C) ⟨0,C,Q,ab,aG.refl _ _,W,.refl D,A,J⟩;rintro m l s⟨j,fs,rfl,U,p,k,g,S,w⟩;have l:=p.at (t:=1) u;have v:=p.at (t:=5) H;have D:=p.at (t:=9) L;have q:cz fs=cz C:=by rw[w];simp;omega
 simp at D;rw[T] at D;unfold j7;by_cases I:j<cz C
 .have B:=ch ((j:Int)+1) ab ab;have⟨x,h⟩:=aQ C j I;have⟨a,M⟩:=Aj (f:=iZ t b) h w;have⟨L,P,r,i,q,y,_,T,u,F⟩:=S.el a;have f:=u 0 1 ag;simp[-ax] at f;rw[q] at D;by_cases o:x.1=t
  .have G:=T 0 1 ag;simp at G;have p:((x.1:Int)==t)=ck:=by simp[o]
   simp[l,v,D,k,I,f,o,y,G,B,-ax];have u:=bc (off:=j*3) (vs:=[fc ft b]) g.ok y;have i:=F (iZ t b x) 0 [fc ft b] J (by simp[aX,iZ,o]) (put s L (j*3) P [fc ft b] r) ⟨s.clock,J⟩;refine⟨cz C-(j+1),ab,j+1,fs.set j (iZ t b x),Q,I,?_,J,g.trans (u.cU λc _ e=>by rw[e];exact cD q),i,M⟩
   exact aq
  .have p:((x.1:Int)==t)=cd:=fP o;have H:fs.set j (iZ t b x)=fs:=by
    have:iZ t b x=x:=by unfold iZ;rw[bM o]
    rw[this];exact nf a
   rw[H] at M;simp[l,v,D,k,I,f,o,p,B,-ax];refine⟨cz C-(j+1),ab,j+1,fs,Q,I,?_,J,g,S,M⟩
   exact aq
 .have:j=cz C:=ab
  subst this;rw[mO,bE,Bx] at w;simp[D,k];refine N _ _ ?_ g (by rw[<-w];exact S)
  exact aq
def vp(bs:List GB)(t b:Int)(i:Nat)(p:GP):GP:=⟨p.dst,iP ((iw bs i p.row).map (iZ t b)) (cz bs)⟩
structure JN(h0 h1:az)(n0 F H:Nat)(name:ByteArray)(p r:Int)(B0 B:SV)(bs:List GB)(ys:List YB):Prop where
 dv:cu h0
 g:ay aR h0 h1
 hB:qP h0 B0 bs
 E:EB bs
 l0:h0.aw<=n0
 hn:n0<=h1.aw
 W:FZ h1 n0 B ys
 len:cz ys=cz bs
 hF:di h1 F (aC name p r B0)
 hH:di h1 H (aC name p r B)
 oF:¬cK B ys F
 oH:¬cK B ys H
section
variable{h0 h1 s:az}{n0 F H:Nat}{name:ByteArray}{p r:Int}{f B:SV}{bs:List GB}{ys d:List YB}
def JN.aw(w:JN h0 h1 n0 F H name p r f B bs ys)(T:cV h1 s n0 B ys B d)(G:cz d=cz ys):JN h0 s n0 F H name p r f B bs d:=by have⟨I,C⟩:=w.hF;have⟨D,A⟩:=w.hH;have o:=w.g.ok;have c:=o.wf _ _ C;have c:=o.wf _ _ A;exact⟨w.dv,w.g.trans' T.g ai (λc a ⟨l,e⟩=>by have:=w.W.new l c e;have:=w.l0;omega),w.hB,w.E,w.l0,by have:=w.hn;have:=T.g.aw;omega,T.w,G.trans w.len,⟨I,T.g.get o C w.oF⟩,⟨D,T.g.get o A w.oH⟩,λe=>(T.s _ e).elim w.oF ab,λe=>(T.s _ e).elim w.oH ab⟩
def ay1(h1:az)(n0:Nat)(B:SV)(ys:List YB)(i:Nat)(y:YB)(P:GP->GP)(e:Env)(m:Nat)(a:Env)(s:az):Prop:=
 ∃(j:Nat) (c:List (GP×SV)),m=cz y.ps-j/\j<=cz y.ps/\aG ([8,9,10]++(aU 60).map (· +31)) e a/\bC a 8 j/\cV h1 s n0 B ys B (ys.set i {y with ps:=c})/\cz c=cz y.ps/\∀(k:Nat)(q o:GP×SV),y.ps[k]?=Z q->c[k]?=Z o->(k<j->o.1=P q.1)/\(j<=k->o=q)
def adS(w:JN h0 h1 n0 F H name p r f B bs ys)(n:ys[i]?=Z y)(u:bs[i]?=Z y.g){t b:Int}(S:bC e 1 b)(N:bU e 2 F)(f5:bC e 5 t)(E:bU e 6 H)(c:bC e 7 i)(P:bC e 8 0)(C:∀X s A,aG ([8,9,10]++(aU 60).map (· +31)) e X->cV h1 s n0 B ys B (ys.set i {y with ps:=A})->A.map (·.1)=y.g.bz.map (vp bs t b i)->V (.exit 2) X s):aK FF (.loop j8) e h1 V:=by
 have O:=w.E.n50;have g:=w.g.ok;have hi:=(cY.mp n).1;have fI:i<cz bs:=(cY.mp u).1;have O:=ad.len w.hB;have T:=w.W.A.len;have M:cz y.ps<100000:=by have:=w.E.pl y.g (cO u);simpa [YB.g] using this
 have D:ys.set i {y with ps:=y.ps} =ys:=nf n;refine aK.loop (ay1 h1 n0 B ys i y (vp bs t b i) e) ?_ (n:=cz y.ps) ⟨0,y.ps,Q,ab,aG.refl _ _,P,by rw[D];exact .refl w.W g,Q,λi q D a b=>⟨λh=>ab,λ_=>by rw[a] at b;cases b;rfl⟩⟩;rintro m X s⟨j,A,rfl,g,P,q8,d,M,Hq⟩;have l:=w.aw d J;have z:=d.g.ok;have U:=l.g;have q1:=P.at (t:=1) S;have q2:=P.at (t:=2) N;have q5:=P.at (t:=5) f5;have q6:=P.at (t:=6) E;have q7:=P.at (t:=7) c;have⟨c,S⟩:=l.hF;have⟨P,W⟩:=l.hH;have g:(ys.set i {y with ps:=A})[i]?=Z {y with ps:=A} :=by rw[fO,bK Q,bK hi]
 have E:=l.W.at g;have fW:y.P.l=cz y.ps:=by have:y.P.l=cz A:=E.P.len;rw[this,M]
 obtain⟨X,P,n,n,fD,CI,X,_,c,_⟩:=l.W.A.el g;have n:=c 0 1 ag;simp[-ax] at n;simp[aC] at S W;rw[fD,T] at W;rw[fW] at n;unfold j8;by_cases P:j<cz y.ps
 .have wj:=ch ((j:Int)+1) ab ab;have⟨q,N⟩:=aQ y.ps j P;have⟨D,X⟩:=aQ A j;have c:=(Hq j q D N X).2 (fq _);subst c;have hgp:y.g.bz[j]?=Z D.1:=by simp[YB.g,N]
  have c:=w.E.rows i y.g u D.1 (cO hgp);have T:=mP bs i;obtain⟨c,T,c,atE,_,_,⟨P0,L0,T0,rfl,c,T,T⟩,oG,apo⟩:=ad.later w.dv w.hB u;have T:=apo s U 0 1 ag;simp[-ax] at T;obtain⟨u,u,u,Zq,_,_,⟨u,rfl,sA0⟩,oQ,hrdQ⟩:=ad.later w.dv c hgp;have u:=hrdQ s U 0 2 ag;simp[-ax] at u;have at2:=ad.len c;have c:cz y.g.bz=cz y.ps:=by simp[YB.g]
  rw[c] at at2;rw[Zq,at2] at T;rw[atE,O] at S;obtain⟨bP,cP,oP,c,jk,zk,c,dD,c,eQ⟩:=E.P.el X;have uy:y.P.a=Z ⟨bP,0,K⟩:=jk;rw[uy] at n;have oF:=z.cg S;have oH:=z.cg W;have E:=z.cg zk;have OO:=z.cg CI;have c:=U.cg oG;have oQ':=U.cg oQ;have KJ:i<cz ys:=hi;have dL:=w.len;simp[q1,q2,q5,q6,q7,q8,S,W,aB S,aB W,P,KJ,fI,n,T,u,oF,oH,E,OO,c,oQ',aI,aC,-ax];have G:=bk z;have hFt:=G.get z S;have hHt:=G.get z W;have hBt:=G.get z CI;have hPt:=G.get z zk;have T:(tick s).aw=s.aw:=Q;generalize tick s=S at*;have u:=U.trans G;have jl:cz (iw bs i D.1.row)<1000000:=by unfold iw;rw[tV];omega
  refine bS.call (V:=λv s=>ay aR S s/\∃L:SV,v=L.v/\bm iF S.aw s L.v (iw bs i D.1.row)) (by simpa [aC,atE,O] using FV G.ok (name:=name) (p:=p) (r:=r) (dst:=D.1.dst) (w.hB.mono w.dv u) (sA0.mono w.dv u λ_ _ h=>h) ab (λx T=>av (w.E.two T)) i ab) ?_;rintro _ U⟨E,L,rfl,T⟩;simp;refine Z2 (E:=L) (t:=t) (b:=b) E.ok (eO T) jl (au q1) (au q5) J J ?_;intro c u U g4 A4;have k2:=U.at (t:=2) (ak q2);have k6:=U.at (t:=6) (ak q6);have k7:=U.at (t:=7) (ak q7);have k8:bY c 8=fc ft j:=U.at (ak q8);have k9:bY c 9=L.v:=U.at J;have lL:∀c,dt L=Z c->s.aw<=c:=λc e=>av (T.of (nM (eO T) e))
  have o:ay aR S u:=E.trans' g4 ai (λc hc e=>av (lL c e));have T:=o.get G.ok hFt;have E:=o.get G.ok hHt;have hB4:=o.get G.ok hBt;have hP4:=o.get G.ok hPt;have W4:=(l.W.cm z G).cm G.ok o;have l:=W4.at g;obtain⟨l,l,l,l,l,KC,_,_,ahr,_⟩:=W4.A.el g;rw[fD] at l;cases l;have l:=ahr 0 1 ag;simp[-ax] at l;rw[uy,fW] at l;have oH4:=o.ok.cg E;have oF4:=o.ok.cg T;have ap1:=o.ok.cg KC;have stH:=o.ok.st _ _ _ _ _ E;have stB:=o.ok.st _ _ _ _ _ KC;have aps:cz (iw bs i D.1.row |>.map (iZ t b))<1000000:=aj jl
  simp[k2,k6,k7,k8,k9,T,E,aB T,aB E,KJ,l,oF4,oH4,ap1,aI,-ax];have I:=bk o.ok;have hH5:=I.get o.ok E;have hB5:=I.get o.ok KC;have hP5:=I.get o.ok hP4;have E:=A4.grow o.ok I ai;have T:(tick u).aw=u.aw:=Q;have T:(tick u).clock=u.clock+1:=Q;generalize tick u=h5 at*;refine bS.call (V:=λv s=>ay aR h5 s/\∃l:SV,v=l.v/\bm cZ h5.aw s l.v (iP ((iw bs i D.1.row).map (iZ t b)) (cz bs))) (by simpa [O] using Jt I.ok E.sl aps (cz bs) ab) ?_;rintro _ E⟨T,O,rfl,l⟩;have hH6:=T.get I.ok hH5;have hB6:=T.get I.ok hB5;have hP6:=T.get I.ok hP5;have zm:=dD 1 1 ag;simp at zm;have W6:=(W4.cm o.ok I).cm I.ok T;obtain⟨u,u,u,u,u,Zo,_,_,ahs,_⟩:=W6.A.el g;rw[fD] at u;cases u;have u:=ahs 0 1 ag;simp[-ax] at u;rw[uy,fW] at u;simp[hH6,stH,stB,hB6,KJ,P,hP6,zm,k8,wj,u,aB hH6,-ax];have u:=bc (off:=j*2+1) (vs:=[O.v]) T.ok hP6;simp at u;have X6:=eQ (vp bs t b i D.1,O) 1 [O.v] J (by simp[aX,vp]) (put E bP (j*2+1) cP [O.v] oP) ⟨E.clock,J⟩;simp at X6;have Ky:ay aR s E:=((G.trans o).trans I).trans T;have E:=((G.trans o).trans I).aw;have E:=d.row (j:=j) w.hn g X (p':=(vp bs t b i D.1,O)) (Ky.cm.trans (u.cU λc _ e=>jZ ⟨.P,jZ Q,by rw[e];exact cD jk⟩)) X6 ((eO l).go T.ok u λc hc e=>by have:=l.of (nM (eO l) e);have:=z.wf _ _ zk;omega) (λc e=>kd (av (l.of (nM (eO l) e))))
  rw[xh] at E;refine⟨cz y.ps-(j+1),ab,j+1,A.set j (vp bs t b i D.1,O),Q,P,?_,J,aj E,au M,λk a c h1 S=>?_⟩
  .repeat (refine aG.set ?_)
   refine aG.trans ?_ (U.cU)
   exact aq
  rw[fO] at S;by_cases e:j=k;subst e;rw[bK Q,bK ab] at S;cases S;rw[N] at h1;cases h1;exact⟨λ_=>rfl,λh=>ab⟩;rw[bM e] at S;have⟨O,g⟩:=Hq k a c h1 S;exact⟨λh=>O ab,λh=>g ab⟩
 .have:j=cz y.ps:=ab
  subst this;simp[q6,q7,q8,W,aB W,hi,n,-ax];refine C _ _ A ?_ d (BT λk=>?_)
  .exact aq
  rw[gM,gM];simp only[YB.g,gM];rcases Kz k (cz y.ps) with U|U;have⟨q,N⟩:=aQ y.ps k U;have⟨D,X⟩:=aQ A k (by rw[M];exact U);rw[N,X];simp only[Eo];rw[(Hq k q D N X).1 U];rw[xU U,xU (by rw[M];exact U)];rfl
def tR(bs:List GB)(t b:Int)(i:Nat)(x:GB):GB:= {x with bz:=x.bz.map (vp bs t b i)}
def ay2(h1:az)(n0:Nat)(B:SV)(bs:List GB)(ys:List YB)(t b:Int)(e:Env)(m:Nat)(z:Env)(s:az):Prop:=
 ∃(i:Nat) (d:List YB),m=cz ys-i/\i<=cz ys/\aG ([7,8,9,10]++(aU 67).map (· +24)) e z/\bC z 7 i/\cV h1 s n0 B ys B d/\cz d=cz ys/\∀(k:Nat)(y z:YB),ys[k]?=Z y->d[k]?=Z z->(k<i->z.g=tR bs t b k y.g)/\(i<=k->z=y)
def adT(w:JN h0 h1 n0 F H name p r f B bs ys)(j:ys.map YB.g=bs){t b:Int}(c:bC e 1 b)(L:bU e 2 F)(u:bC e 5 t)(v:bU e 6 H)(z:bC e 7 0)(C:∀W s d,aG ([7,8,9,10]++(aU 67).map (· +24)) e W->cV h1 s n0 B ys B d->d.map YB.g=bs.mapIdx (tR bs t b)->V (.exit 0) W s):aK FF (.loop j9) e h1 V:=by
 have D:=w.E.n50;have D:=w.W.A.len;have T:=w.len;refine aK.loop (ay2 h1 n0 B bs ys t b e) ?_ (n:=cz ys) ⟨0,ys,Q,ab,aG.refl _ _,z,.refl w.W w.g.ok,Q,λi q z a b=>⟨λh=>ab,λ_=>by rw[a] at b;cases b;rfl⟩⟩;rintro m W s⟨i,d,rfl,z,z,I,T,l,g⟩;have n:=w.aw T l;have⟨x,o⟩:=n.hH;have x:=z.at (t:=1) c;have M:=z.at (t:=2) L;have L:=z.at (t:=5) u;have c:=z.at (t:=6) v;simp[aC] at o;rw[D] at o;unfold j9;by_cases D:i<cz ys
 .have u:=ch ((i:Int)+1) ab ab;have⟨y,A⟩:=aQ ys i D;have⟨z,G⟩:=aQ d i;have v:=(g i y z A G).2 (fq _);subst v;have v:bs[i]?=Z z.g:=by rw[<-j,gM,A];rfl
  simp[c,I,o,aB o,D,-ax];refine adS n (t:=t) (b:=b) G v (au x) (au M) (au L) (au c) (au I) J ?_;intro M L x n L E;have v:bY M 7=fc ft i:=n.at (ak I);simp[v,u];refine⟨cz ys-(i+1),ab,i+1,d.set i {z with ps:=x},Q,D,?_,J,T.trans L,au l,λk a l h1 D=>?_⟩
  .repeat (refine aG.set ?_)
   refine aG.trans ?_ (n.cU)
   exact aq
  rw[fO] at D;by_cases e:i=k;subst e;rw[bK Q,bK ab] at D;cases D;rw[A] at h1;cases h1;exact⟨λ_=>by simp only[YB.g,tR,E],λh=>ab⟩;rw[bM e] at D;have⟨E,n⟩:=g k a l h1 D;exact⟨λh=>E ab,λh=>n ab⟩
 .have:i=cz ys:=ab
  subst this;simp[c,I,o,aB o,-ax];refine C _ _ d ?_ T (BT λk=>?_)
  .exact aq
  rw[gM,List.getElem?_mapIdx,<-j,gM];rcases Kz k (cz ys) with D|D;have⟨y,A⟩:=aQ ys k D;have⟨z,G⟩:=aQ d k;rw[A,G];simp only[Eo];rw[(g k y z A G).1 D,j];rw[xU D,xU ab];rfl
end
structure VZ(h:az)(B:SV)(ys:List YB):Prop where
 A:eM eF h B ys
 r:∀y∈ys,BZ h y
 no:∀y∈ys,∀l c,y.loc l=Z c->dt B≠Z c
def FZ.vz(w:FZ h n0 B ys):VZ h B ys:=⟨w.A,w.r,λy A l c e C=>by have⟨i,o⟩:=iG A;have:=w.tQ K (Z (i,l)) c C (by rw[cC o];exact e);cases this⟩
def VZ.view{h:az}{B:SV}{ys:List YB}(w:VZ h B ys):qP h B (ys.map YB.g):=w.A.view J λi r b a c=>by simp[a] at c;subst c;exact(w.r r (cO a)).view
def VZ.cm{h s:az}{B:SV}{ys:List YB}(w:VZ h B ys)(c:cu h)(g:ay aR h s):VZ s B ys:=⟨w.A.cm c g,λy o=>(w.r y o).cm c g,w.no⟩
def VZ.set{h s:az}{B:SV}{ys:List YB}{i:Nat}{y:YB}(w:VZ h B ys)(C:cu h)(g:ay (λc=>dt B=Z c) h s)(A:eM eF s B (ys.set i y))(z:BZ h y)(no:∀l c,y.loc l=Z c->dt B≠Z c):VZ s B (ys.set i y):=by have a:∀ {x:YB},BZ h x->(∀l c,x.loc l=Z c->dt B≠Z c)->BZ s x:=λo n=>o.go C g λc l D e=>n l c e D;refine⟨A,λx o=>?_,λx o=>?_⟩<;>rcases List.mem_or_eq_of_mem_set o with o|rfl;exact a (w.r x o) (w.no x o);exact a z no;exact w.no x o;exact no
def kr(n t:Nat):List Nat:=(aU n).filter λi=> !decide (i=t)
def aae(n t:Nat):kr (n+1) t=kr n t++(if n=t then [] else [n]):=by unfold kr;rw[List.range_succ,List.filter_append];by_cases e:n=t<;>simp[e]
def JnL(h1:az)(H t n:Nat)(e:Env)(m:Nat)(a:Env)(s:az):Prop:=
 ∃(j:Nat) (L:SV),m=n-j/\j<=n/\aG ([11,12]++(aU 14).map (· +115)) e a/\bY a 11=L.v/\bC a 12 j/\ay aR h1 s/\bm encI h1.aw s L.v (nI (kr j t))
def adR(D:cu h1){H t n:Nat}{M:Nat}(f:eR h1 H (aC name p r B) M)(N:B.l=n)(F:n<1000000)(x:bC e 5 t)(S:bU e 6 H)(b:bY e 11=cM.v)(W:bC e 12 0)(C:∀G s (L:SV),aG ([11,12]++(aU 14).map (· +115)) e G->bY G 11=L.v->ay aR h1 s->bm encI h1.aw s L.v (nI (kr n t))->V (.exit 6) G s):aK FF (.loop j6) e h1 V:=by
 refine aK.loop (JnL h1 H t n e) ?_ (n:=n) ⟨0,cM,Q,ab,aG.refl _ _,b,W,.refl D,jZ ⟨Q,Q⟩⟩;rintro m G s⟨j,L,rfl,U,E,v,A,g,o⟩;have F:=g.ok;have c:=E.at (t:=5) x;have T:=E.at (t:=6) S;have w:=g.get D f;simp[aC] at w;rw[N] at w;unfold j6;by_cases I:j<n
 .have f:=ch ((j:Int)+1) ab ab;have D:=aae j t;by_cases l:j=t
  .rw[bK l,Bx] at D;subst l;simp[c,T,A,w,aB w,I,f,-ax];refine⟨n-(j+1),ab,j+1,L,Q,I,?_,au v,J,g,by rw[D];exact o⟩
   exact aq
  .rw[bM l] at D;have z:((j:Int) !=t)=ck:=by simp;omega
   have a:cz (nI (kr j t))<=j:=by unfold nI kr;rw[AZ];exact qN (IW _ _) J
   have E:¬(j:Int)=t:=ab
   simp[c,T,v,A,w,aB w,I,z,-ax];have y:=aO F [fc ft j] 0;have h:=o.grow F y ai;have H:bp encI (aJ s [fc ft j] 0) (dB (Z ⟨s.aw,0,K⟩) 1 1) [(j:Int)]:=dq (E:=encI) (x:=(j:Int)) (bX _ _ _);have b:(aJ s [fc ft j] 0).aw=s.aw+1:=Q;have i:=g.aw;obtain⟨k,S,E,S,x,_⟩:=fg (bytes:=8) y.ok (z:=[fc ft 0]) rfl h H ab ag ab;obtain⟨M,rfl⟩:=bm.E5 S;refine dh (aj E) ?_;simp[A,f];refine⟨n-(j+1),ab,j+1,M,Q,I,?_,J,J,(g.trans y).trans' x ai (λc d e=>av (o.of e)),by rw[D];simpa [nI] using S⟩
   exact aq
 .have:j=n:=ab
  subst this;simp[T,A,w,aB w,-ax];refine C _ _ L ?_ (au v) g o
  exact aq
def jm(bs:List GB)(b t:Nat)(T:GB):List GB:=bs.mapIdx λi x=>
 if i=t then {tR bs t b i x with kind:=1,on:=(cd,0),to:=[]} else if i=b then⟨(tR bs t b i x).bz,x.list++T.list,T.kind,T.on,T.to⟩ else tR bs t b i x
def TV(y:cu h0)(f:ay aR h0 h){name:ByteArray}{p r:Int}{c:SV}{b t:Nat}{X T:GB}(M:qP h0 c bs)(E:EB bs)(O:∀b∈bs,Kr b)(i:dE bs b t X T)(EJ:EB (jm bs b t T))(ZJ:∀x∈jm bs b t T,Kr x)(n:cz X.list+cz T.list<1000000):aY FF 42 [ix ⟨aC name p r c⟩,fc ft b] h (lD name p r (bu (jm bs b t T) (kr (cz bs) t)) h):=by
 have n:=f.ok;have F:=E.n50;have F:=ad.len M;have N:¬h.aw=h.aw+1:=ab
 have qW:=(cY.mp i.ht).1;have pM:=(cY.mp i.hb).1;obtain⟨S,Sg,S,S,_,_,⟨P0,L0,T0,rfl,z,z,z⟩,s,s⟩:=ad.later y M i.hb;have u:T0.l=1:=by have:=ad.len z;rw[i.to] at this;simpa using this
 obtain⟨D,D,D,D,_,_,g,m,m⟩:=ad.later y z (i:=0) (x:=(t:Int)) (by rw[i.to];rfl);cases g;refine aY.of Cs ?_;unfold tE;have z:ay aR h (aJ (aJ h [gX name,fc ft p,fc ft r,dB c.a c.l c.c] 0) [gX ⟨⟨[]⟩⟩,fc ft 0,fc ft 0,dB K 0 0] 0):=((ay.refl n).new _ _).new _ _;have n:(aJ (aJ h [gX name,fc ft p,fc ft r,dB c.a c.l c.c] 0) [gX ⟨⟨[]⟩⟩,fc ft 0,fc ft 0,dB K 0 0] 0).tr.get h.aw=Z (.bZ (aC name p r c) cd 0 0):=by simp[aC,N]
 have g:(aJ (aJ h [gX name,fc ft p,fc ft r,dB c.a c.l c.c] 0) [gX ⟨⟨[]⟩⟩,fc ft 0,fc ft 0,dB K 0 0] 0).tr.get (h.aw+1)=Z (.bZ [gX ⟨⟨[]⟩⟩,fc ft 0,fc ft 0,dB K 0 0] cd 0 0):=J
 simp[aC,N];generalize aJ (aJ h _ 0) _ 0=h1 at*;have N:=f.trans z;have q:=s h1 N 5 1 ag;have s:=m h1 N 0 1 ag;simp[-ax] at q s;rw[D,u] at q;have m:=n;simp[aC] at m;rw[S,F] at m;simp[S,F,m,aB m,pM,q,s,-ax];refine bh.call (V:=lD name p r bs h1) (by simpa [aC,S,F] using ui y N (name:=name) (p:=p) (r:=r) M O ab) ?_;rintro _ m⟨q,B,ys,rfl,W2,O,s⟩;have D:cz ys=cz bs:=by have:=congrArg bW s;simpa using this
 have O:=q.get z.ok n;have u:=q.get z.ok g;simp[aC];refine aK.cut (λF=>ay aR m F/\F.aw=m.aw+1/\di F m.aw (aC name p r B)) ?_ ?_
 exact⟨(ay.refl q.ok).var _ _,J,m.clock,by simp[aX,aC]⟩;rintro F⟨S,v,v,a⟩;have H:=z.ok.wf _ _ n;have lR:=z.ok.wf _ _ g;have g:=f.aw;have g:=z.aw;have g:=q.aw;have g:=S.get q.ok O;have O:=S.get q.ok u;have n:=W2.cm q.ok S;have low:∀x,x<h1.aw->¬cK B ys x:=λx A ⟨l,e⟩=>av (W2.new l x e)
 have u:¬cK B ys m.aw:=λ⟨l,e⟩=>av (W2.lt q.ok e)
 have f:JN h0 F h1.aw h.aw m.aw name p r c B bs ys:=⟨y,(N.trans q).trans S,M,E,ab,ab,n,D,⟨_,g⟩,⟨v,a⟩,low _ H,u⟩;refine adT f s (t:=t) (b:=b) J J J J J ?_;intro N M y c n M4;have k1:bY N 1=fc ft b:=c.at J;have k4:bU N 4 (h.aw+1):=c.at J;have k5:bY N 5=fc ft t:=c.at J;have k6:bU N 6 m.aw:=c.at J;have N:=f.aw n (by have:=congrArg bW M4;simp at this;omega);have vS:=N.len;obtain⟨f,f⟩:=N.hH;have Il:=n.g.get S.ok O (low _ lR);have⟨s,g⟩:=aQ y b;have⟨w,v⟩:=aQ y t;have grb:s.g=tR bs t b b X:=by have:=congrArg (λl=>l[b]?) M4;simpa [g,i.hb] using this
 have grt:w.g=tR bs t b t T:=by have:=congrArg (λl=>l[t]?) M4;simpa [v,i.ht] using this
 have u:=n.g.ok;have D:=N.W;have eo:=D.A.len;have O:=D.at g;have O:=D.at v;obtain⟨c,cs,o4,O,a,O,_,dD,H,eQ⟩:=D.A.el g;obtain⟨_,_,_,_,d,V,_,_,V,_⟩:=D.A.el v;rw[a] at d;cases d;have d:=H 1 1 ag;have H:=V 1 1 ag;simp[-ax] at d H;simp[aC] at f;rw[a,eo,vS] at f;have V:=u.cg f;have U:=u.cg O;simp[k1,k4,k5,k6,f,aB f,pM,qW,d,H,V,U,aI,-ax];have nbt:=i.ne;have ne1:c≠m.aw:=λe=>N.oH ⟨K,by rw[<-e];exact cD a⟩;have d:=bk u;have U:=d.get u f;have hBt:=d.get u O;have stH:=u.st _ _ _ _ _ f;have H:=D.cm u d;have Yb5:=H.at g;have V:=H.at v;have f:(tick M).aw=M.aw:=Q;have f:(tick M).clock=M.clock+1:=Q;have f:cz s.ls=cz X.list:=by have:=congrArg (λx=>cz x.list) grb;simpa [YB.g,tR] using this
 have f:cz w.ls=cz T.list:=by have:=congrArg (λx=>cz x.list) grt;simpa [YB.g,tR] using this
 generalize tick M=h5 at*;have⟨f,O,ha,UA,D,Zx,_⟩:=Ff (bytes:=80) (z:=[fc ft 0,fc ft 0,dC cd,fc ft 0,dC cd,fc ft 0,fc ft 0,dB K 0 0]) d.ok rfl Yb5.L V.L.sl ab ag;refine mn (aj ha) ?_;have nLB:∀x,bx s.L.v x->x≠c:=λx A e=>by have:=H.tQ K (Z (b,.L)) x (by rw[e];exact cD a) (by rw[cC g];exact dI A);cases this
 have V:∀x,bx s.L.v x->x≠m.aw:=λx A e=>N.oH ⟨Z (b,.L),by rw[cC g,<-e];exact dI A⟩;have hH6:=D.get d.ok U (λe=>V _ e Q);have V:=D.get d.ok hBt (λe=>nLB _ e Q);have U:=dD 1 1 ag;simp at U;simp[hH6,stH,pM,V,U];have U:=bc (off:=b*6+1) (vs:=[f.v]) D.ok V;have A7:=eQ (qb s w f) 1 [f.v] J (by simp[aX,qb]) (put O c (b*6+1) cs [f.v] o4) ⟨O.clock,J⟩;have V:ay (λx=>dt s.L=Z x\/x=c) h5 (put O c (b*6+1) cs [f.v] o4):=(D.cU λx _ A=>jZ (dI A)).trans (U.cU λx _ e=>kd e);have hL7:=UA.go D.ok U (λx A e=>by have l5:=d.ok.wf _ _ hBt;rcases Zx x (nM UA e) with h|h;exact nLB x h A;omega)
 have FJ:=H.join d.ok g v V (λx A o ho=>by rcases A with A|A;exact kd (H.own (l:=.L) g A ho (λh=>h));have:=H.tQ K o x (by rw[A];exact cD a) ho;exact jZ this.symm) A7 hL7 (λx e=>(Zx x (nM UA e)).imp (λh=>dI h) λh=>ab) (av N.hn);have N:=FJ.1.vz;have W:=U.get D.ok hH6 (Ne.symm ne1);simp only[SV.AA] at U N W V;have H:(put O c (b*6+1) cs [dB f.a f.l f.c] o4).clock=O.clock+1:=Q;rw[<-H];have H:=D.get d.ok (d.get u Il) (λe=>(n.s _ ⟨Z (b,.L),by rw[cC g];exact dI e⟩).elim (low _ lR) ab);have hR7:=U.get D.ok H (λe=>(n.s _ ⟨K,by rw[e];exact cD a⟩).elim (low _ lR) ab);generalize put O c (b*6+1) cs _ o4=h7 at*;have G:=V.ok;have⟨D,hy5⟩:∃D,D=qb s w f:=⟨_,Q⟩;rw[<-hy5] at N;have apw:(y.set b D)[t]?=Z w:=by rw[fO,bM (Ne.symm nbt)];exact v
 have apn:(y.set b D)[b]?=Z D:=by rw[fO,bK Q,bK ab]
 obtain⟨_,f,f,f,f,U,_,_,u,_⟩:=N.A.el apw;rw[a] at f;cases f;obtain⟨_,cs8,o8,f,O,f,_,H,_,ahy⟩:=N.A.el apn;rw[a] at O;cases O;have O:=u 2 4 ag;simp[-ax] at O;have u:=G.cg W;have oB7:=G.cg U;have U:=G.st _ _ _ _ _ W;have U:=H 2 4 ag;simp at U;simp[k1,k5,k6,W,aB W,pM,qW,O,u,oB7,f,U,aI,-ax];have C:=bk G;have aAV:=C.get G f;have O:=N.cm G C;have H:=C.get G W;have N:=C.get G hR7;generalize tick h7=h8 at*;have⟨u,U⟩:∃u:YB,u= {D with kind:=w.kind,on:=w.on,T:=w.T,to:=w.to} :=⟨_,Q⟩;have A9:=ahy u 2 [fc ft w.kind,dC w.on.1,fc ft w.on.2,w.T.v] J (by simp[aX,U]) (put h8 c (b*6+2) cs8 [fc ft w.kind,dC w.on.1,fc ft w.on.2,w.T.v] o8) ⟨h8.clock,J⟩;have f:=bc (off:=b*6+2) (vs:=[fc ft w.kind,dC w.on.1,fc ft w.on.2,w.T.v]) C.ok aAV;simp only[SV.AA] at A9 f;have hH9:=f.get C.ok H (Ne.symm ne1);have nRb:h.aw+1≠c:=λe=>(n.s _ ⟨K,by rw[e];exact cD a⟩).elim (low _ lR) ab;have hR9:=f.get C.ok N nRb;have N:=O.r D (cO apn);have Zt:=O.r w (cO apw);have H:=O.no D (cO apn);have D:=O.no w (cO apw);have V9:=O.set C.ok (f.cU λx _ e=>by rw[e];exact cD a) A9 (by rw[U];exact⟨N.P,N.L,Zt.T,N.ps,N.ls⟩) (by
  rw[U];intro l x e;cases l with
  |T=>exact D .T x e
  |P=>exact H .P x e
  |L=>exact H .L x e
  |R j=>exact H (.R j) x e
  |X j=>exact H (.X j) x e)
 rw[xh] at V9;generalize put h8 c (b*6+2) cs8 _ o8=h9 at*;have aoj:B.l=cz bs:=by rw[eo,vS]
 have H:=V9.A.lt f.ok (cD a);refine adR (n:=cz bs) (t:=t) (B:=B) (name:=name) (p:=p) (r:=r) f.ok (by simpa [aC,a,aoj] using hH9) aoj ab (au k5) (au k6) (by simp[cM]) J ?_;intro H Pm D O EU D US;have m4:bU H 4 (h.aw+1):=O.at (ak k4);have m5:bY H 5=fc ft t:=O.at (ak k5);have m6:bU H 6 m.aw:=O.at (ak k6);have O:=V9.cm f.ok D;have aA0:=D.get f.ok hH9;have aBg:=D.get f.ok hR9;have ahw:(y.set b u)[t]?=Z w:=by rw[fO,bM (Ne.symm nbt)];exact v
 obtain⟨_,as3,o11,v,v,m,_,H,_,N⟩:=O.A.el ahw;rw[a] at v;cases v;have v:=H 2 4 ag;simp at v;simp[m4,m5,m6,EU,aA0,qW,m,v,nRb,ne1,Ne.symm ne1];have⟨v,H⟩:∃v:YB,v= {w with kind:=1,on:=(cd,0),T:=cM,to:=[]} :=⟨_,Q⟩;have A12:=N v 2 [fc ft 1,dC cd,fc ft 0,cM.v] J (by simp[aX,H]) (put Pm c (t*6+2) as3 [fc ft 1,dC cd,fc ft 0,dB K 0 0] o11) ⟨Pm.clock,by simp[cM]⟩;have I:=bc (off:=t*6+2) (vs:=[fc ft 1,dC cd,fc ft 0,dB K 0 0]) D.ok m;have aow:=I.get D.ok aBg nRb;have m:=O.r w (cO ahw);have N:=O.no w (cO ahw);have V12:=O.set D.ok (I.cU λx _ e=>by rw[e];exact cD a) A12 (by rw[H];exact⟨m.P,m.L,⟨Q,jZ ⟨Q,Q,Q⟩⟩,m.ps,m.ls⟩) (by
  rw[H];intro l x e;cases l with
  |T=>cases e
  |P=>exact N .P x e
  |L=>exact N .L x e
  |R j=>exact N (.R j) x e
  |X j=>exact N (.X j) x e)
 have O:=US.sl.grow D.ok I (λx A e=>av (US.of A));generalize put Pm c (t*6+2) as3 _ o11=h12 at*;have N:((y.set b u).set t v).map YB.g=jm bs b t T:=BT λk=>by
  rw[gM,fO,fO,List.length_set,jm,List.getElem?_mapIdx];have Mk:(y[k]?).map YB.g=(bs[k]?).map (tR bs t b k):=by have:=congrArg (λl=>l[k]?) M4;simpa [List.getElem?_mapIdx] using this
  by_cases m:t=k
  .subst m;rw[bK Q,bK ab,i.ht];simp only[Eo,if_true];have y:v.g= {w.g with kind:=1,on:=(cd,0),to:=[]} :=by rw[H];rfl
   rw[y,grt]
  .rw[bM m];by_cases y:b=k
   .subst y;rw[bK Q,bK ab,i.hb];simp only[Eo];rw[bM (Ne.symm m),bK trivial];have i:u.g=⟨s.g.bz,s.g.list++w.g.list,w.g.kind,w.g.on,w.g.to⟩:=by rw[U,hy5];simp[YB.g,qb]
    rw[i,grb,grt];rfl
   rw[bM y,Mk];rcases bs[k]? with _|x;rfl;simp only[Eo];rw[bM (Ne.symm m),bM (Ne.symm y)]
 have y:=V12.view;rw[N] at y;have m:cz (kr (cz bs) t)<100000:=by unfold kr;exact F1 (IW _ _) (by simp;omega)
 refine bh.call (V:=lD name p r (bu (jm bs b t T) (kr (cz bs) t)) h12) (by simpa [aC,a,aoj] using Gq I.ok (.refl I.ok) (name:=name) (p:=p) (r:=r) y EJ ZJ O m (λk y=>by unfold kr at y;have:=OB.1 (EL.1 y).1;simpa [jm] using this)) ?_;rintro _ y⟨y,s,O,rfl,u,N,i⟩;have U:=y.get I.ok aow;simp[aC,m4,U];have m:∀x,cK B ys x\/F.aw<=x->h1.aw<=x:=λx A=>A.elim (λ⟨l,e⟩=>W2.new l x e) ab;have F:h1.aw<=c:=m c (n.s _ ⟨K,cD a⟩);have a:ay aR h M:=((z.trans q).trans S).trans' n.g ai (λx A e=>av (m x (jZ e)));have S:ay aR h h7:=(a.trans d).trans' V ai (λx A e=>by rcases e with e|e;have:=m x (n.s _ ⟨Z (b,.L),by rw[cC g];exact e⟩);omega;omega)
 have g:ay aR h h9:=(S.trans C).trans' f ai (λx A e=>ab);have b:ay aR h h12:=(g.trans D).trans' I ai (λx A e=>ab);have g:=bc (off:=0) (vs:=[gX name,fc ft p,fc ft r,s.v]) y.ok U;simp at g;have U:=b.aw;exact⟨(b.trans y).trans' g ai (λx A e=>ab),s,O,by simp[aC],(u.go y.ok g λx l e g=>by have:=u.new l x g;have:=I.aw;have:=D.aw;have:=f.aw;have:=C.aw;have:=V.aw;have:=n.g.aw;omega).cU ab,N,i⟩
def Mi:∀ {P:List Int} {k:Nat} {x:Int},P.Nodup->P[k]?=Z x->P.take k++P.drop (k+1)=P.filter (λa=>a !=x)
 |[],_,_,_,h=>by simp at h
 |y::P,0,x,b,h=>by
  have⟨h1,_⟩:=List.nodup_cons.1 b;have e:y=x:=aj h
  subst e;rw[List.filter_cons_of_neg J];simp;exact(List.filter_eq_self.2 λa c=>by simp;exactλe=>h1 (e▸c)).symm
 |y::P,k+1,x,b,h=>by
  have⟨h1,o⟩:=List.nodup_cons.1 b;have s:P[k]?=Z x:=aj h
  have w:y≠x:=λe=>h1 (e▸cO s);rw[List.filter_cons_of_pos (aj w),<-Mi o s];simp
def Oc:∀ {l:List (Int×(Bool×Int))} (n:Int),l.Pairwise (λa b=>a.1<b.1)->l.filter (λx=>decide (x.1<n))=l.take (cz (l.filter λx=>decide (x.1<n)))/\l.filter (λx=> !decide (x.1<n))=l.drop (cz (l.filter λx=>decide (x.1<n)))
 |[],_,_=>⟨Q,Q⟩
 |x::l,n,h=>by
  have⟨h1,o⟩:=List.pairwise_cons.1 h;by_cases e:x.1<n;have⟨a,b⟩:=Oc n o;rw[List.filter_cons_of_pos (aj e),List.filter_cons_of_neg (aj e)];exact⟨by rw[eN,List.take_succ_cons,<-a],by rw[eN,List.drop_succ_cons,<-b]⟩
  .have no:l.filter (λx=>decide (x.1<n))=[]:=by rw[List.filter_eq_nil_iff];intro y c;have:=h1 y c;simp;omega
   rw[List.filter_cons_of_neg (aj e),List.filter_cons_of_pos (aj e),no];exact⟨Q,congrArg (x:: ·) (List.filter_eq_self.2 λy c=>by have:=h1 y c;simp;omega)⟩
def Rj(w:cz row=cz P)(s:P.Pairwise (· < ·))(h0:∀a∈P,0<=a/\a<n):iP (P.zip row) n=row:=by
 have b:∀x∈P.zip row,x.1∈P:=λx c=>(bV (a:=x.1) (b:=x.2) c).1;have o:(P.zip row).Pairwise (λa d=>a.1<d.1):=by have e:(P.zip row).map (·.1)=P:=List.map_fst_zip ab;rw[<-e] at s;exact List.pairwise_map.1 s
 rw[Bm (.refl _) o (λx c=>(h0 _ (b x c)).1) n,List.filter_eq_self.2 (λx c=>by have:=h0 _ (b x c);simpa using this.2)];exact List.map_snd_zip ab
def aic(f:cz row=cz P)(s:P.Pairwise (· < ·))(h0:∀a∈P,0<=a/\a<n)(f:cg∈P)(y:w∉P)(h1:0<=w/\w<n):iP ((P.zip row).map (iZ cg w)) n=PA P cg w row:=by
 have p:P.Nodup:=s.imp λh=>ab
 have⟨k,r,m,c⟩:=Ar f;have f:∀x∈P.zip row,x.1∈P:=λx c=>(bV (a:=x.1) (b:=x.2) c).1;have g:(P.zip row).map (·.1)=P:=List.map_fst_zip ab;have j:(P.zip row).map (·.2)=row:=List.map_snd_zip ab;have W:(P.zip row).Pairwise (λa d=>a.1<d.1):=by rw[<-g] at s;exact List.pairwise_map.1 s
 have⟨v,q⟩:=aQ row k;have⟨b,I⟩:∃b,b=P.zip row:=⟨_,Q⟩;rw[<-I] at f g j W⊢;have i:b[k]?=Z (cg,v):=by rw[I,dS];exact⟨m,q⟩
 have D:cz b=cz P:=by rw[I,tV];omega
 have⟨D,o⟩:∃D,D=b.take k++b.drop (k+1):=⟨_,Q⟩;have V:D.map (·.1)=P.filter (λa=>a !=cg):=by rw[o,aL,List.map_take,List.map_drop,g];exact Mi p m
 have t:D.map (·.2)=je row k:=by rw[o,aL,List.map_take,List.map_drop,j];rfl
 have m:∀x∈D,x∈b:=λx c=>by rw[o] at c;exact(kg.1 c).elim ET qy
 have j:∀x∈D,x.1≠cg:=λx c=>by have:x.1∈D.map (·.1):=KA c;rw[V] at this;simpa using(EL.1 this).2
 have g:D.Pairwise (λa d=>a.1<d.1):=by
  rw[o];exact W.sublist (by
   have:b=b.take k++b.drop k:=(qn k b).symm
   conv=>rhs;rw[this]
   refine List.Sublist.append (List.Sublist.refl _) ?_;rw[et (by omega:k<cz b)];exact List.sublist_cons_self _ _)
 have u:b=b.take k++(cg,v)::b.drop (k+1):=by
  conv=>lhs;rw[<-qn k b,et (by omega:k<cz b)]
  have:b[k]'ab=(cg,v):=by rw[jh ab] at i;simpa using i
  rw[this]
 have p:∀ {l:List (Int×(Bool×Int))},(∀x∈l,x.1≠cg)->l.map (iZ cg w)=l:=fun {l} h=>by
  conv=>rhs;rw[<-List.map_id l]
  exact cc λx c=>by unfold iZ;rw[bM (h x c)];rfl
 have i:(b.map (iZ cg w)).Perm ((w,v)::D):=by
  rw[u,aL,xg,p (λx c=>j x (by rw[o];exact aW _ c)),p (λx c=>j x (by rw[o];exact af _ c))];have:iZ cg w (cg,v)=(w,v):=by unfold iZ;rw[bK rfl]
  rw[this,o];exact List.perm_middle
 have⟨p,u⟩:=Oc w g;have⟨xs,C⟩:∃xs,xs=D.filter (λx=>decide (x.1<w))++(w,v)::D.filter (λx=> !decide (x.1<w)):=⟨_,Q⟩;have j:xs.Perm (b.map (iZ cg w)):=by refine List.Perm.trans ?_ i.symm;rw[C];refine List.perm_middle.trans (List.Perm.cons _ ?_);exact List.filter_append_perm _ _
 have S:xs.Pairwise (λa d=>a.1<d.1):=by
  rw[C,List.pairwise_append];refine⟨g.filter _,List.pairwise_cons.2 ⟨λx c=>?_,g.filter _⟩,λa g d G=>?_⟩;have A:=(EL.1 c).2;have d:x.1≠w:=λe=>y (e▸f x (m x (EL.1 c).1));simp at A;show w<x.1;omega
  have A:=(EL.1 g).2;simp at A;rcases List.mem_cons.1 G with rfl|G;exact A;have d:=(EL.1 G).2;simp at d;omega
 have d:∀x∈b.map (iZ cg w),0<=x.1/\x.1<n:=λx c=>by rcases List.mem_cons.1 (i.subset c) with rfl|c;exact h1;exact h0 _ (f x (m x c))
 rw[Bm j S (λx c=>(d x c).1) n,List.filter_eq_self.2 (λx c=>by have:=d x (j.subset c);simpa using this.2)];have c:cz (D.filter λx=>decide (x.1<w))=cz (P.filter λa=>decide (a<w)&&a !=cg):=by
  have:cz ((D.map (·.1)).filter λa=>decide (a<w))=cz (D.filter λx=>decide (x.1<w)):=by rw[List.filter_map,AZ];rfl
  rw[<-this,V,List.filter_filter]
 rw[C,p,u,c];unfold PA zr;rw[r,E0,q,<-t];simp
def iB(bs:List GB)(b:Int):(aN bs b).Pairwise (· < ·):=by unfold aN jX;exact List.pairwise_map.2 ((List.pairwise_lt_range.filter _).imp λh=>ab)
def zO{b a:Int}(h:a∈aN bs b):0<=a/\a<cz bs:=by obtain⟨i,rfl,x,c,_⟩:=cJ.1 h;have:=(cY.mp c).1;omega
section
variable{bs:List GB}{b t:Nat}{X T:GB}
def dE.tR(c:dE bs b t X T)(E:EB bs){i:Nat}{x:GB}(G:bs[i]?=Z x)(h:i≠t):Go.Proofs.YtdhnndleffachaaGreatDoor.tR bs t b i x=if(i:Int)∈T.to then Et (aN bs i) t b x else x:=by
 have I:=(cY.mp c.hb).1;have d:∀p∈x.bz,vp bs t b i p=if(i:Int)∈T.to then⟨p.dst,PA (aN bs i) t b p.row⟩ else p:=λp A=>by
  have w:=E.rows i x G p A;unfold vp iw;by_cases e:(i:Int)∈T.to;rw[bK e,aic w (iB bs i) (λa o=>zO o) (c.Uq.2 e) (c.not h) ab]
  .rw[bM e];have:((aN bs i).zip p.row).map (iZ t b)=(aN bs i).zip p.row:=by
    conv=>rhs;rw[<-List.map_id ((aN bs i).zip p.row)]
    refine cc λy C=>?_;unfold iZ;rw[bM (λD=>e (c.Uq.1 (by rw[<-D];exact(bV (a:=y.1) (b:=y.2) C).1)))];rfl
   rw[this,Rj w (iB bs i) (λa o=>zO o)]
 unfold Go.Proofs.YtdhnndleffachaaGreatDoor.tR;rw[cc d];by_cases e:(i:Int)∈T.to;simp only[bK e];rfl;simp only[bM e];rw[show x.bz.map (λp=>p)=x.bz from List.map_id _]
def Je(c:dE bs b t X T)(E:EB bs)(h:i≠t):(jm bs b t T)[i]?=(cG bs b t X T)[i]? :=by
 unfold jm cG;rw[List.getElem?_mapIdx,List.getElem?_mapIdx];rcases o:bs[i]? with _|x;rfl
 .simp only[Eo];unfold dU;rw[bM h,bM h,c.tR E o h];by_cases e:i=b;subst e;rw[c.hb] at o;cases o;rw[bK rfl];try rw[bK rfl]
  rw[bM e,bM e]
def Wh(c:dE bs b t X T):(jm bs b t T)[t]?=Z ⟨[],T.list,1,(cd,0),[]⟩:=by unfold jm;rw[List.getElem?_mapIdx,c.ht];simp only[Eo,if_true];unfold Go.Proofs.YtdhnndleffachaaGreatDoor.tR;rw[c.ph];rfl
def Nc:cz (jm bs b t T)=cz bs:=by simp[jm]
def EB.same{d:List GB}(E:EB bs)(o:cz d=cz bs)(H:∀(i:Nat)(x c:GB),bs[i]?=Z x->d[i]?=Z c->c.bz=x.bz/\c.kind=x.kind/\c.to=x.to):EB d:=by
 have f:∀c∈d,∃x∈bs,c.bz=x.bz/\c.kind=x.kind/\c.to=x.to:=λc d=>by have⟨i,G⟩:=iG d;have⟨x,d⟩:=aQ bs i (by rw[<-o];exact(cY.mp G).1);exact⟨x,cO d,H i x c d G⟩
 refine⟨by rw[o];exact E.n1,by rw[o];exact E.n50,λc d=>?_,λc d=>?_,λi c d p D=>?_,λc d=>?_⟩;have⟨x,w,_,I,C⟩:=f c d;rw[I,C];exact E.kind x w;have⟨x,w,_,_,C⟩:=f c d;rw[C,o];exact E.to x w;have⟨x,A⟩:=aQ bs i (by rw[<-o];exact(cY.mp d).1);rw[(H i x c A d).1] at D;rw[lQ o λi x c a b=>(H i x c a b).2.2];exact E.rows i x A p D;have⟨x,w,e,_⟩:=f c d;rw[e];exact E.pl x w
def Rp(c:dE bs b t X T)(E:EB bs)(i:Nat)(x a:GB)(h1:(cG bs b t X T)[i]?=Z x)(o:(jm bs b t T)[i]?=Z a):a.bz=x.bz/\a.kind=x.kind/\a.to=x.to:=by by_cases e:i=t;subst e;rw[Wh c] at o;rw[iq c.ht] at h1;cases h1;cases o;unfold dU;rw[bK rfl];exact⟨Q,Q,Q⟩;rw[Je c E e,h1] at o;cases o;exact⟨Q,Q,Q⟩
def dE.ebJ(c:dE bs b t X T)(E:EB bs):EB (jm bs b t T):=(c.eb E).same (by rw[Nc,iJ]) (Rp c E)
def dE.anR(c:dE bs b t X T)(E:EB bs)(k:Int):aN (jm bs b t T) k=aN (cG bs b t X T) k:=lQ (by rw[Nc,iJ]) (λi x o a d=>(Rp c E i x o a d).2.2) k
def Ah :k∈kr n t↔k<n/\k≠t:=by unfold kr;rw[EL,OB];simp
def adZ(n t:Nat):Ord n (kr n t):=⟨List.nodup_range.filter _,λx c=>(Ah.1 c).1⟩
def aaf(o:1<=n)(c:1<=t):(kr n t)[0]?=Z 0:=by obtain⟨m,rfl⟩:∃m,n=m+1:=⟨n-1,ab⟩;unfold kr;rw[List.range_succ_eq_map,List.filter_cons_of_pos (by simp;omega)];rfl
def dE.left(c:dE bs b t X T)(E:EB bs):nH (cG bs b t X T) (kr (cz bs) t):=by
 refine⟨by rw[iJ];exact adZ _ _,aaf E.n1 (av (E.to X (cO c.hb) t (by rw[c.to];simp))),λk x G D u o=>?_⟩;have C:=(Ah.1 G).2;have a:=c.eb E;have A:=a.to x (cO D) u o;rw[iJ] at A;refine Ah.2 ⟨ab,λe=>?_⟩;obtain⟨y,a,rfl⟩:=gf D;rw[dP,bM C] at o;have I:u=(t:Int):=ab
 subst I;split at o;exact c.self o;rename_i w;exact w (c.RL a o)
def dE.kept(c:dE bs b t X T)(E:EB bs):bu (jm bs b t T) (kr (cz bs) t)=bu (cG bs b t X T) (kr (cz bs) t):=by unfold bu;refine cc λk o=>?_;rw[c.anR E,Je c E (Ah.1 o).2]
end
def Bp:∀ {l m:List Int},l.Pairwise (· < ·)->m.Pairwise (· < ·)->(∀a,a∈l↔a∈m)->l=m
 |[],[],_,_,_=>rfl
 |[],y::m,_,_,h=>by have:=(h y).2 (iY ..);simp at this
 |x::l,[],_,_,h=>by have:=(h x).1 (iY ..);simp at this
 |x::l,y::m,h1,D,h=>by
  have⟨A,C⟩:=List.pairwise_cons.1 h1;have⟨w,c⟩:=List.pairwise_cons.1 D;have e:x=y:=by rcases List.mem_cons.1 ((h x).1 (iY ..)) with e|e;exact e;rcases List.mem_cons.1 ((h y).2 (iY ..)) with o|o;exact o.symm;have:=w x e;have:=A y o;omega
  subst e;rw[Bp C c λa=>?_];constructor;intro c;rcases List.mem_cons.1 ((h a).1 (xV _ c)) with e|e;have:=A a c;omega;exact e
  intro c;rcases List.mem_cons.1 ((h a).2 (xV _ c)) with e|e;have:=w a c;omega;exact e
def al5{o w:List (Bool×Int)}(b:P.Nodup)(h1:cz o=cz P)(D:cz w=cz P)(h:∀e∈P.zip o,e∈P.zip w):o=w:=by
 refine BT λj=>?_;by_cases G:j<cz P
 .have⟨a,A⟩:=aQ P j G;have⟨v,C⟩:=aQ o j;have D:=h (a,v) (cO (i:=j) (by rw[dS];exact⟨A,C⟩));have⟨k,c⟩:=iG D;rw[dS] at c;have:k=j:=by have I:=(cY.mp c.1).1;exact(List.getElem?_inj I b).1 (c.1.trans A.symm)
  subst this;rw[C,c.2]
 rw[xU ab,xU ab]
def Uk(l:List (Int×(Bool×Int))):Prop:=∀a v w,(a,v)∈l->(a,w)∈l->v=w
def sg(u:Uk l) :fE l a=Z v↔(a,v)∈l:=by
 unfold fE;constructor
 .intro h;obtain⟨x,w,rfl⟩:=Option.map_eq_some_iff.1 h;have h1:=e0 w;have c:=o5 w;have:x.1=a:=aj c
  rw[<-this];exact h1
 .intro h;cases o:l.find? λx=>x.1==a with
  |none=>have:=D2.1 o _ h;simp at this
  |some x=>
   have h1:=e0 o;have c:=o5 o;have:x.1=a:=aj c
   rw[Eo,u a x.2 v (by rw[<-this];exact h1) h]
def Rx{c:List Int}(s:c.Pairwise (· < ·))(u:Uk l)(D:∀a,a∈c↔ ∃v,(a,v)∈l)(A:∀x∈l,0<=x.1/\x.1<n):(∀e,e∈c.zip (iP l n)↔e∈l)/\cz (iP l n)=cz c:=by
 have G:c=(Jf l n).map λx:Nat=>(x:Int):=by
  refine Bp s (List.pairwise_map.2 ((List.pairwise_lt_range.filter _).imp λh=>ab)) λa=>?_;rw[D,kC];constructor;rintro⟨v,c⟩;have:=A _ c;exact⟨a.toNat,ss.2 ⟨by simp at this;omega,v,(sg u).2 (by rw[show((a.toNat:Nat):Int)=a by simp at this;omega];exact c)⟩,by simp at this;omega⟩
  rintro⟨k,o,rfl⟩;have⟨_,v,c⟩:=ss.1 o;exact⟨v,(sg u).1 c⟩
 rw[N6,G];refine⟨λe=>?_,J⟩;rw[List.zip_map',kC];constructor
 .rintro⟨k,o,rfl⟩;have⟨_,v,c⟩:=ss.1 o;have:Y7 l k=v:=by unfold Y7;rw[c];rfl
  rw[this];exact(sg u).1 c
 .intro w;have I:=A e w;refine⟨e.1.toNat,ss.2 ⟨ab,e.2,(sg u).2 (by rw[show((e.1.toNat:Nat):Int)=e.1 by omega];exact w)⟩,?_⟩;have C:((e.1.toNat:Nat):Int)=e.1:=ab
  have:fE l ((e.1.toNat:Nat):Int)=Z e.2:=(sg u).2 (by rw[C];exact w);unfold Y7;rw[this];exact Prod.ext C rfl
def aqV(b:P.Nodup):Uk (P.zip row):=λa v w h1 A=>by have⟨i,c⟩:=iG h1;have⟨j,o⟩:=iG A;rw[dS] at c o;have C:=(cY.mp c.1).1;have:i=j:=(List.getElem?_inj C b).1 (c.1.trans o.1.symm);subst this;have:=c.2.symm.trans o.2;cases this;rfl
section
variable{bs f:List GB}{b t:Nat}{X T:GB}
def SL(E:EB bs)(W:EB f)(g:cz f=cz bs)(H:∀(i:Nat)(x b:GB),bs[i]?=Z x->f[i]?=Z b->(b.list=x.list/\b.kind=x.kind/\b.on=x.on/\b.to=x.to)/\cz b.bz=cz x.bz/\∀(j:Nat)(p c:GP),x.bz[j]?=Z p->b.bz[j]?=Z c->c.dst=p.dst/\∀e∈(aN bs i).zip p.row,e∈(aN f i).zip c.row):f=bs:=by
 refine BT λi=>?_;rcases Kz i (cz bs) with C|C
 .have⟨x,D⟩:=aQ bs i C;have⟨b,A⟩:=aQ f i;have⟨⟨h1,I,l,h⟩,m,V⟩:=H i x b D A;have m:aN f i=aN bs i:=lQ g (λk y d a g=>(H k y d a g).1.2.2.2) i;rw[D,A];have d:b.bz=x.bz:=BT λj=>by
   rcases Kz j (cz x.bz) with w|w;have⟨p,d⟩:=aQ x.bz j w;have⟨c,o⟩:=aQ b.bz j;have⟨g,G⟩:=V j p c d o;rw[d,o];have H:=E.rows i x D p (cO d);have D:=W.rows i b A c (cO o);rw[m] at D G;have:=al5 (jz bs i) H D G;cases p;cases c;simp at g this;rw[g,this]
   rw[xU w,xU ab]
  cases x;cases b;simp at h1 I l h d;rw[h1,I,l,h,d]
 rw[xU C,xU ab]
def dE.bz(c:dE bs b t X T)(E:EB bs){i:Nat}{x:GB}(o:bs[i]?=Z x)(h:i≠t):(dU bs b t X T i x).bz=x.bz.map (vp bs t b i):=by rw[mM h,<-c.tR E o h];rfl
def aqD{t b:Int}(u:Uk l)(d:∀v,(b,v)∉l):Uk (l.map (iZ t b)):=λa v w h1 D=>by have⟨x,C,c⟩:=kC.1 h1;have⟨y,A,o⟩:=kC.1 D;unfold iZ at c o;split at c<;>split at o;cases c;cases o;exact u t _ _ (by rename_i h _;rw[<-h];exact C) (by rename_i h;rw[<-h];exact A);cases c;exact absurd A (by rw[o];exact d w);cases o;exact absurd C (by rw[c];exact d v);rw[c] at C;rw[o] at A;exact u a v w C A
def dE.g_(c:dE bs b t X T)(E:EB bs){x:GB}(G:bs[i]?=Z x)(h:i≠t){p:GP}(D:p∈x.bz)(e:Int×(Bool×Int)):e∈(aN (cG bs b t X T) i).zip (vp bs t b i p).row↔ ∃f∈(aN bs i).zip p.row,e=iZ t b f:=by
 have C:=E.rows i x G p D;have D:∀v,((b:Int),v)∉(aN bs i).zip p.row:=λv w=>c.not h (bV w).1;have d:=Rx (l:=((aN bs i).zip p.row).map (iZ t b)) (n:=cz bs) (iB (cG bs b t X T) i) (aqD (aqV (jz bs i)) D) (λa=>?_) (λy A=>?_)
 rw[show(vp bs t b i p).row=iP (((aN bs i).zip p.row).map (iZ t b)) (cz bs) from Q,d.1,kC];exact⟨λ⟨f,a,d⟩=>⟨f,a,d.symm⟩,λ⟨f,a,d⟩=>⟨f,a,d.symm⟩⟩
 .rw[c.mem h];constructor;rintro(⟨rfl,o⟩|⟨I,o⟩);have⟨v,w⟩:=Uu C (c.Uq.2 o);exact⟨v,kC.2 ⟨_,w,by unfold iZ;rw[bK rfl]⟩⟩;have⟨v,w⟩:=Uu C o;exact⟨v,kC.2 ⟨_,w,by unfold iZ;rw[bM I]⟩⟩
  .rintro⟨v,w⟩;have⟨y,A,e⟩:=kC.1 w;have o:=(bV (a:=y.1) (b:=y.2) A).1;unfold iZ at e;split at e
   rename_i h1;cases e;exact jZ ⟨Q,c.Uq.1 (h1▸o)⟩;rename_i h1;rw[e] at h1 o;exact kd ⟨h1,o⟩
 .obtain⟨z,d,rfl⟩:=kC.1 A;have o:=zO (bV (a:=z.1) (b:=z.2) d).1;have d:=(cY.mp c.hb).1;unfold iZ;split
  exact⟨by show(0:Int)<=b;omega,by show(b:Int)<cz bs;omega⟩;exact o
end
def fJ(bs:List GB)(b t:Nat)(B T:GB)(i:Nat)(X:GB):(dU bs b t B T i X).list=if i=t then [] else if i=b then B.list++T.list else X.list:=by unfold dU;split;rfl;split;rfl;split<;>rfl
def iS(bs:List GB)(b t:Nat)(B T:GB)(i:Nat)(X:GB):(dU bs b t B T i X).on=if i=t then(cd,0) else if i=b then T.on else X.on:=by unfold dU;split;rfl;split;rfl;split<;>rfl
def vO{b t:Nat}{B T:GB}{X:GB}(h:i=t):dU bs b t B T i X=uw:=by unfold dU;rw[bK h]
def DK{b t:Nat}{B T:GB}{X:GB}(h:X.bz=[]):(dU bs b t B T i X).bz=[]:=by by_cases e:i=t;unfold dU;rw[bK e];rfl;rw[mM e];split;unfold Et;rw[h];rfl;exact h
section
variable{bs:List GB}{b t d g:Nat}{X T z T2:GB}
def nh(b t d:Nat):Nat:=if d=t then b else d
def dE.tne(o:dE bs b t X T)(c:dE bs d g z T2)(w:d≠b):g≠t:=λe=>w (o.RL c.hb (by rw[c.to,e];simp))
def dE.second(o:dE bs b t X T)(c:dE bs d g z T2)(w:d≠b)(f:¬(d=t/\g=b)):∃a,bs[nh b t d]?=Z a/\dE (cG bs b t X T) (nh b t d) g (dU bs b t X T (nh b t d) a) (dU bs b t X T g T2):=by
 have C:=o.tne c w;unfold nh;by_cases e:d=t
 .rw[bK e];have A:z=T:=by have:=c.hb;rw[e,o.ht] at this;cases this;rfl
  refine⟨X,o.hb,iq o.hb,iq c.ht,?_,?_,λh=>f ⟨e,h⟩,DK c.ph,?_⟩;rw[dY,bM (Ne.symm o.ne),bK Q,<-A];exact c.k2;rw[dP,bM (Ne.symm o.ne),bK Q,<-A];exact c.to;rw[o.Yd C];exact c.one
 rw[bM e];refine⟨z,c.hb,iq c.hb,iq c.ht,?_,?_,c.ne,DK c.ph,?_⟩;rw[dY,bM e,bM w];exact c.k2;rw[dP,bM e,bM w];exact c.to;rw[o.Yd C];exact c.one
def aeG(h:d≠b)(h:g≠t)(I:t≠b)(G:g≠d)(h:¬(d=t/\g=b))(f:Int×(Bool×Int)):iZ g (nh b t d) (iZ t b f)=iZ t (nh d g b) (iZ g d f):=by
 have⟨a,v⟩:=f;unfold nh;by_cases w:a=t
 .subst w;have h1:¬((t:Int)=(g:Int)):=ab
  by_cases c:b=g;have o:¬d=t:=λe=>h ⟨e,c.symm⟩;simp[iZ,h1,c,o]
  .have A:¬((b:Int)=(g:Int)):=ab
   simp[iZ,h1,c,A]
 .by_cases c:a=g
  .subst c;by_cases o:d=t;have D:¬b=g:=λe=>h ⟨o,e.symm⟩;simp[iZ,w,o,D]
   .have C:¬((d:Int)=(t:Int)):=ab
    simp[iZ,w,o,C]
  simp[iZ,w,c]
def dE.swap(w:dE bs b t X T)(A:dE bs d g z T2)(E:EB bs)(k:d≠b)(L:¬(d=t/\g=b)):∃N m F O,dE (cG bs b t X T) (nh b t d) g N m/\dE (cG bs d g z T2) (nh d g b) t F O/\cG (cG bs b t X T) (nh b t d) g N m=cG (cG bs d g z T2) (nh d g b) t F O:=by
 have I:=w.tne A k;have u:¬(b=g/\t=d):=λh=>L ⟨h.2.symm,h.1.symm⟩;have⟨N,F,m⟩:=w.second A k L;have⟨O,s,l⟩:=A.second w (Ne.symm k) u;refine⟨_,_,_,_,m,l,?_⟩;have u:=w.eb E;have r:=A.eb E;refine SL (l.eb r) (m.eb u) (by simp only[iJ]) λi y y y h1=>?_;obtain⟨B,B,rfl⟩:=gf y;obtain⟨H,H,rfl⟩:=gf h1;obtain⟨x,C,rfl⟩:=gf B;obtain⟨f,f,rfl⟩:=gf H;rw[C] at f;cases f;have f:nh b t d≠t:=by unfold nh;split;exact Ne.symm w.ne;assumption
 have f:nh d g b≠g:=by unfold nh;split;exact Ne.symm A.ne;assumption
 refine⟨?_,?_⟩
 .have P:i=b->x=X:=λe=>by rw[e,w.hb] at C;cases C;rfl
  have S:i=d->x=z:=λe=>by rw[e,A.hb] at C;cases C;rfl
  have f:=w.ne;have v:=A.ne;by_cases a:d=t
  .have G:¬b=g:=λe=>L ⟨a,e.symm⟩;have n:nh b t d=b:=by unfold nh;rw[bK a]
   have W:nh d g b=b:=by unfold nh;rw[bM G]
   have M:z=T:=by have:=A.hb;rw[a,w.ht] at this;cases this;rfl
   rw[n,w.hb] at F;rw[W,w.hb] at s;cases F;cases s;rw[n,W];clear m l H B h1 y u r;subst a;subst M;by_cases c:i=d
   .have D:¬i=g:=ab
    have V:¬i=b:=ab
    simp[fJ,dY,iS,dP,c,D,V,Ne.symm I,Ne.symm f,f,G]
   .by_cases o:i=g
    .have V:¬i=b:=ab
     simp[fJ,dY,iS,dP,c,o,V,I,f,G,Ne.symm G]
    by_cases D:i=b;have:=P D;subst this;simp[fJ,dY,iS,dP,c,o,D,I,f,G,Ne.symm G,Ne.symm f,Ne.symm I,k];simp[fJ,dY,iS,dP,c,o,D]
  .have n:nh b t d=d:=by unfold nh;rw[bM a]
   rw[n,A.hb] at F;cases F;by_cases G:b=g
   .have W:nh d g b=d:=by unfold nh;rw[bK G]
    have M:X=T2:=by have:=w.hb;rw[G,A.ht] at this;cases this;rfl
    rw[W,A.hb] at s;cases s;rw[n,W];clear m l H B h1 y u r;subst G;subst M;by_cases c:i=t
    .have D:¬i=b:=ab
     have V:¬i=d:=ab
     simp[fJ,dY,iS,dP,c,Ne.symm I,Ne.symm a,f]
    by_cases o:i=b;simp[fJ,dY,iS,dP,o,I,f,Ne.symm k,v];by_cases D:i=d;have:=S D;subst this;simp[fJ,dY,iS,dP,D,a,I,f,k,Ne.symm k,Ne.symm a,Ne.symm I,v];simp[fJ,dY,iS,dP,c,o,D]
   .have W:nh d g b=b:=by unfold nh;rw[bM G]
    rw[W,w.hb] at s;cases s;rw[n,W];clear m l H B h1 y u r;by_cases c:i=t;simp[fJ,dY,iS,dP,c,Ne.symm I,Ne.symm a,f]
    .by_cases o:i=g;simp[fJ,dY,iS,dP,o,I,Ne.symm G,v]
     .by_cases D:i=b;have:=P D;subst this;simp[fJ,dY,iS,dP,D,G,Ne.symm k,Ne.symm f,Ne.symm I,Ne.symm a,f]
      by_cases V:i=d;have:=S V;subst this;simp[fJ,dY,iS,dP,V,a,k,I,Ne.symm G,Ne.symm v,v];simp[fJ,dY,iS,dP,c,o,D,V]
 .by_cases c:i=t
  .have v:(dU (cG bs b t X T) (nh b t d) g (dU bs b t X T (nh b t d) N) (dU bs b t X T g T2) i (dU bs b t X T i x)).bz=[]:=DK (by rw[vO c];rfl);have D:(dU (cG bs d g z T2) (nh d g b) t (dU bs d g z T2 (nh d g b) O) (dU bs d g z T2 t T) i (dU bs d g z T2 i x)).bz=[]:=by rw[vO c];rfl
   rw[v,D];exact⟨Q,λj p a h=>by simp at h⟩
  .by_cases o:i=g
   .have D:(dU (cG bs d g z T2) (nh d g b) t (dU bs d g z T2 (nh d g b) O) (dU bs d g z T2 t T) i (dU bs d g z T2 i x)).bz=[]:=DK (by rw[vO o];rfl);have v:(dU (cG bs b t X T) (nh b t d) g (dU bs b t X T (nh b t d) N) (dU bs b t X T g T2) i (dU bs b t X T i x)).bz=[]:=by rw[vO o];rfl
    rw[v,D];exact⟨Q,λj p a h=>by simp at h⟩
   .rw[m.bz u (iq C) o,w.bz E C c,l.bz r (iq C) c,A.bz E C o];refine⟨J,λj p a N D=>?_⟩;rw[bL,gM] at N D;obtain⟨q,v,rfl⟩:=Option.map_eq_some_iff.1 N;rw[v] at D;cases D;have D:=cO v;refine⟨Q,λe O=>?_⟩;have v:vp bs g d i q∈(dU bs d g z T2 i x).bz:=by rw[A.bz E C o];exact KA D
    have a:vp bs t b i q∈(dU bs b t X T i x).bz:=by rw[w.bz E C c];exact KA D
    obtain⟨f,N,rfl⟩:=(l.g_ r (iq C) c v e).1 O;obtain⟨r,v,rfl⟩:=(A.g_ E C o D f).1 N;refine(m.g_ u (iq C) o a _).2 ⟨iZ t b r,(w.g_ E C c D _).2 ⟨r,v,Q⟩,?_⟩;exact(aeG k I w.ne A.ne L r).symm
end
def Rk(bs:List GB)(a:Nat->Nat):Prop:=∀k:Nat,k≠0->aN bs k=[]\/∃u:Nat,(u:Int)∈aN bs k/\a u<a k
section
variable{bs:List GB}{f:Nat->Nat}{b t g d:Nat}{X T z T2:GB}
def dE.in1(c:dE bs b t X T):(b:Int)∈aN bs t:=cJ.2 ⟨b,Q,X,c.hb,by rw[c.to];simp⟩
def dE.only(c:dE bs b t X T){a:Nat}(h:(a:Int)∈aN bs t):a=b:=by
 have⟨j,e,d,w,o⟩:=cJ.1 h;have:j=a:=ab
 subst this;exact c.RL w o
def dE.t1(c:dE bs b t X T)(E:EB bs):t≠0:=av (E.to X (cO c.hb) t (by rw[c.to];simp))
def Rk.lt(R:Rk bs f)(E:EB bs)(c:dE bs b t X T):f b<f t:=by rcases R t (c.t1 E) with h|⟨u,o,w⟩;have:=c.in1;rw[h] at this;cases this;rw[<-c.only o];exact w
def Rk.nc(R:Rk bs f)(E:EB bs)(w:dE bs b t X T)(c:dE bs g d z T2):¬(g=t/\d=b):=λ⟨h1,o⟩=>by have:=R.lt E w;have:=R.lt E c;rw[h1,o] at this;omega
def dE.dead(c:dE bs b t X T):aN (cG bs b t X T) t=[]:=by refine List.eq_nil_iff_forall_not_mem.2 λa h=>?_;have⟨j,e,d,C,o⟩:=cJ.1 h;obtain⟨d,w,rfl⟩:=gf C;rw[dP] at o;split at o;cases o;split at o;exact c.self o;rename_i A;exact A (c.RL w o)
def Rk.step(R:Rk bs f)(E:EB bs)(c:dE bs b t X T):Rk (cG bs b t X T) f:=λk C=>by
 by_cases e:k=t;rw[e];exact jZ c.dead
 .rcases R k C with h|⟨u,A,w⟩;refine jZ (List.eq_nil_iff_forall_not_mem.2 λa D=>?_);rcases(c.mem e).1 D with⟨_,hm⟩|⟨_,hm⟩;have:=c.Uq.2 hm;rw[h] at this;cases this;rw[h] at hm;cases hm
  .by_cases o:u=t;refine kd ⟨b,(c.mem e).2 (jZ ⟨Q,c.Uq.1 (o▸A)⟩),?_⟩;have:=R.lt E c;rw[o] at w;omega
   exact kd ⟨u,(c.mem e).2 (kd ⟨ab,A⟩),w⟩
def Steps.head{a n:List GB}(s:Steps a n):a=n\/∃b t X T,dE a b t X T/\Steps (cG a b t X T) n:=by
 induction s with
 |refl=>exact jZ rfl
 |step s c o=>
  rcases o with rfl|⟨b,t,X,T,d,w⟩;exact kd ⟨_,_,_,_,c,.refl _⟩;exact kd ⟨b,t,X,T,d,.step w c⟩
def Steps.one(c:dE bs b t X T):Steps bs (cG bs b t X T):=.step (.refl _) c
def anj:∀(m:Nat)(bs:List GB),AW bs<=m->∃n,Steps bs n/\∀x,xY n x
 |m,bs,o=>by
  by_cases h:∃b t X T,dE bs b t X T
  .have⟨b,t,X,T,c⟩:=h;have w:=c.less
   match m with
   |0=>omega
   |m+1=>
    have⟨n,s,no⟩:=anj m (cG bs b t X T) ab;exact⟨n,(Steps.one c).trans s,no⟩
  exact⟨bs,.refl _,λx u a U c=>h ⟨x,u,a,U,c⟩⟩
def dE.same(o:dE bs b t X T)(c:dE bs b d z T2):d=t/\z=X/\T2=T:=by
 have h1:=c.hb;rw[o.hb] at h1;cases h1;have w:=c.to;rw[o.to] at w;have e:d=t:=by simp at w;omega
 subst e;have A:=c.ht;rw[o.ht] at A;cases A;exact⟨Q,Q,Q⟩
def apX:∀(m:Nat)(bs:List GB),AW bs<=m->EB bs->Rk bs f->∀A C,Steps bs A->Steps bs C->(∀x,xY A x)->(∀x,xY C x)->A=C:=by
 intro m;induction m with
 |zero=>
  intro bs a E R A C D w h1 G;rcases D.head with rfl|⟨b,t,X,T,c,_⟩;rcases w.head with rfl|⟨b,t,X,T,o,_⟩;rfl;exact absurd o (h1 _ _ _ _);have:=c.less;omega
 |succ m I=>
  intro bs a E R A C D w h1 G;rcases D.head with rfl|⟨b,t,X,T,c,D⟩;rcases w.head with rfl|⟨b,t,X,T,o,_⟩;rfl;exact absurd o (h1 _ _ _ _)
  .rcases w.head with rfl|⟨g,d,z,T2,o,w⟩;exact absurd c (G _ _ _ _)
   .have a:=c.less;have a:=o.less;by_cases e:g=b
    subst e;obtain⟨rfl,rfl,rfl⟩:=c.same o;exact I _ ab (c.eb E) (R.step E c) A C D w h1 G
    .obtain⟨W,j,a,a,k,V,l⟩:=c.swap o E e (R.nc E c o);have⟨a,h,i⟩:=anj _ _ (fq (AW (cG (cG bs b t X T) (nh b t g) d W j)));have j:=I _ ab (c.eb E) (R.step E c) A a D ((Steps.one k).trans h) h1 i;have D:=I _ ab (o.eb E) (R.step E o) C a w ((Steps.one V).trans (by rw[<-l];exact h)) G i;rw[j,D]
end
end Go.Proofs.YtdhnndleffachaaGreatDoor
