/- Parts of the proof. -/
import Derived.Test.YtdhnndleffachaaGreatDoorP05
open Function renaming comp_def->p8
open Go renaming Value->aa
open List.IsPrefix renaming trans->hJ
open List.Pairwise renaming nil->aar
open Nat renaming le_of_lt->uo,min_eq_left->lA
open Option renaming some->Z,none->K,isSome_iff_exists->nG
open Bool renaming false->b9,true->cd
open List renaming length->Y,drop_eq_getElem_cons->fj,drop_length->cG,find?_some->Aa,flatMap_append->H2,flatMap_map->rO,foldl_append->lv,getElem?_range->lN,getElem?_zip_eq_some->fi,length->dk,map_append->aW,map_map->gN,map_set->dr,mem_append_left->ba,mem_append_right->aT,mem_filterMap->wv,mem_flatMap->a8,mem_of_find?_eq_some->lk,mem_of_mem_drop->pv,mem_singleton->br,of_mem_zip->b8,range->aA,replicate->an,set_append_right->Ds,set_cons_zero->w9
open Go.Value renaming slice->c6,bool->dd,pointer->dB,int->dC,string->eT,agg->eU,bool->eX,int->aL,slice->bo,string->eK
open Go.IntKind renaming i64->ef,i64->c9
open Or renaming inl->fc,inr->ft
set_option linter.all false
set_option maxHeartbeats 1000000
namespace Go.Proofs.YtdhnndleffachaaGreatDoor
open Go.AI
variable{A B L0 O P0 T0:SV}{M N R1 R2 U X P a c i j C k m n n0 s t D E sU g:Nat}{T:bJ->Env->aB->Prop}{b:GB}{bs:List GB}{e:Env}{fs:List GF}{fv v1 v2:aa}{I:List GG}{h V h0 h1 G:aB}{l0 W xs:List Int}{name:ByteArray}{q:GI×SV}{row:List (Bool×Int)}{u:GU}{v:Bool×Int}{x x':GI}{o:List aa}{y y0:YB}{ys:List YB}{H w:Type}
section
variable{n0:Nat}{B:SV}{ys:List YB}{N d aF:Nat}{l:List Int}
structure SzZ(y:YB):Prop where
 p:Y y.ps<=100000
 l:Y y.ls<=100000
 r:∀q∈y.ps,Y q.1.row<=100000
 a:∀q∈y.ls,Y q.1.args<=100000
def ae7(y:YB):QD y.g=(y.ps.flatMap λq=>[q.1.dst])++((y.ls.flatMap λq=>Cw q.1)++mh y.on):=by
 unfold QD YB.g;rw[gN,rO];congr 1;induction y.ps with
 |nil=>rfl
 |cons p t o=>rw[zZ,List.flatMap_cons,o];rfl
def NbZ(h:aB)(n0:Nat)(B:SV)(ys:List YB)(N d aF:Nat)(l:List Int)(v1 v2:aa)(m:Nat)(a:Env)(V:aB):Prop:=
 ∃j:Nat,m=Y ys-j/\j<=Y ys/\bX a 1=v1/\bX a 2=v2/\cg a 3 N/\bX a 43=B.v/\bz a 44 (Y ys)/\bz a 45 j/\az (Co N d) h V/\NZ V n0 B ys N d aF (dp l ((ys.take j).flatMap λy=>QD y.g))
def YD(i:cy h)(k:NZ h n0 B ys N d aF l)(z:Y ys<50)(sz:∀y∈ys,SzZ y)(P:ve aF (ys.flatMap λy=>QD y.g))(X:bX e 1=v1)(z:bX e 2=v2)(S:cg e 3 N)(A:bX e 43=B.v)(U:bz e 44 (Y ys))(L:bz e 45 0)(C:∀I V,bX I 1=v1->bX I 2=v2->cg I 3 N->az (Co N d) h V->NZ V n0 B ys N d aF (dp l (ys.flatMap λy=>QD y.g))->T (.exit 2) I V):aN FF (.loop rJ) e h T:=by
 refine aN.loop (NbZ h n0 B ys N d aF l v1 v2) ?_ (n:=Y ys) ⟨0,Q,J,X,z,S,A,U,L,.refl i,k⟩;rintro m I V⟨j,rfl,v,n,p,M,w,f,i,O,G⟩;have x:=O.ok;unfold rJ;by_cases u:j<Y ys
 .have wj:=bZ ((j:Int)+1) J J;have⟨r,H⟩:=aR ys j u;have z:=cK H;have v:=sz r z;have U:=v.p;have A:=v.l;have W:=P.at z;rw[ae7] at W;have R:=G.W.at H;have⟨b,L,o,s,U,F,_,_,A,_⟩:=G.W.A.el H;have z:=A 0 6 ai;simp[-ay] at z;have dq:=G.W.A.len;have X:=R.P.len;have S:=R.L.len;simp at w;rw[U,dq] at w;simp[M,w,f,i,u,z,-ay,aJ,X];refine aN.cut (λA=>az aV V A/\c_ A V.ax [c6 r.P.a (Y r.ps) r.P.c,c6 r.L.a (Y r.ls) r.L.c,dC ef r.kind,dd r.on.1,dC ef r.on.2,c6 r.T.a r.T.l r.T.c]) ?_ ?_
  exact⟨(az.refl x).var _ _,V.clock,by simp[bg,X,S]⟩;rintro A⟨z,g,A⟩;have t:=G.cr x z;have⟨a,L⟩:=G.lt x;have L:¬Co N d V.ax:=λe=>by rcases e with e|e<;>omega
  refine agH z.ok t H J W.fst (av M) (av X) ag ag ?_;intro a x D x P;have F:=x.get z.ok A L;have a1:=D.at (t:=1) (aq n);have a2:=D.at (t:=2) (aq p);have c:=D.at (t:=3) (aq M);have X:cg a 6 V.ax:=D.at ag;have a43:=D.at (t:=43) (aq w);have a44:=D.at (t:=44) (aq f);have t:=D.at (t:=45) (aq i);simp[X,F];refine agG x.ok P H J (λq A=>aw (v.a q A)) W.snd.fst (av c) (av S) ag ag ?_;intro a h4 E a P;have iG:=a.get x.ok F L;have A:=E.at (t:=1) (aq a1);have b2:=E.at (t:=2) (aq a2);have S:=E.at (t:=3) (aq c);have v:=E.at (t:=6) (aq X);have X:=E.at (t:=43) (aq a43);have c:=E.at (t:=44) (aq a44);have F:=E.at (t:=45) (aq t);simp[S,v,iG];refine bm.call (V:=Ss N d aF _ r.on h4) (ak (uT a.ok P.w W.snd.snd k.PB)) ?_;rintro _ t⟨L,v,rfl⟩;have t:=ke (f:=λy:YB=>QD y.g) H l;rw[ae7,eW,eW] at t;simp[F,wj];exact⟨Y ys-(j+1),J,j+1,Q,u,av A,av b2,av S,by simp[X,U,dq],av c,ag,O.trans (z.cr.trans (x.trans (a.trans L))),P.step a.ok L (by rw[t];exact v)⟩
 .have:j=Y ys:=J
  subst this;rw[mI] at G;simp[f,i];exact C _ _ (av n) (av p) (av M) O G
def NqZ(h:aB)(n0:Nat)(B:SV)(ys:List YB)(N d aF:Nat)(p:Nat)(v1 v2:aa)(m:Nat)(a:Env)(V:aB):Prop:=
 ∃j:Nat,m=p-j/\j<=p/\bX a 1=v1/\bX a 2=v2/\cg a 3 N/\bz a 34 p/\bz a 35 j/\az (Co N d) h V/\NZ V n0 B ys N d aF (j9 j)
def YN(p:Nat):dN (j9 p) p=j9 (p+1):=by rw[Mf];unfold dN;rw[bM];unfold j9;simp;intro x o;omega
def YE(i:cy h)(k:NZ h n0 B ys N d aF []){p:Nat}(L:p<=aF)(X:bX e 1=v1)(z:bX e 2=v2)(b:cg e 3 N)(H:bz e 34 p)(G:bz e 35 0)(C:∀w V,bX w 1=v1->bX w 2=v2->cg w 3 N->az (Co N d) h V->NZ V n0 B ys N d aF (j9 p)->T (.exit 0) w V):aN FF (.loop rK) e h T:=by
 have P:=k.PB;refine aN.loop (NqZ h n0 B ys N d aF p v1 v2) ?_ (n:=p) ⟨0,Q,J,X,z,b,H,G,.refl i,k⟩;rintro m w V⟨j,rfl,v,z,M,D,o,t,g,E⟩;unfold rK;by_cases I:j<p;have x:=bZ ((j:Int)+1) J J;simp[D,o,t,I];refine bm.call (V:=XX N d aF _ (j:Int) V) (ak (ze g.ok E.w (r:=(j:Int)) J k.PB)) ?_;rintro _ s⟨b,W,rfl⟩;simp[t,x];exact⟨p-(j+1),J,j+1,Q,I,av z,av M,av D,av o,ag,g.trans b,E.step g.ok b (by rw[<-YN];exact W)⟩
 .have:j=p:=J
  subst this;simp[o,t];exact C _ _ (av z) (av M) (av D) g E
end
structure WZ(h0 h:aB)(n0:Nat)(B:SV)(iU ys:List YB)(N nb aF:Nat)(l:List Int):Prop where
 k:NZ h n0 B ys N nb aF l
 x:xk B ys
 n0:n0<=h0.ax
 s:∀c,cm B ys c->cm B iU c\/h0.ax<=c
 g:az (λc=>cm B iU c\/Co N nb c) h0 h
section
variable{h0 h V:aB}{n0:Nat}{B:SV}{d ys r:List YB}{N f aF:Nat}{l p:List Int}
def WZ.refl(k:NZ h n0 B ys N f aF l)(x:xk B ys)(t:n0<=h.ax)(o:cy h):WZ h h n0 B ys ys N f aF l:=⟨k,x,t,λ_ h=>fc h,.refl o⟩
def WZ.ahK(w:WZ h0 h n0 B d ys N f aF l)(U:cM h V n0 B ys B r):WZ h0 V n0 B d r N f aF l:=by
 have t:=w.g.ok;have H:=w.g.ax;have⟨D,E⟩:=w.k.lt t;have C:∀c,c<h.ax->¬cm B ys c->¬cm B r c:=λc o G e=>(U.s c e).elim G J;refine⟨⟨U.w,w.k.w.go t U.g w.k.nN w.k.nb,C _ D w.k.nN,C _ E w.k.nb,w.k.PB⟩,U.x w.x,w.n0,λc o=>?_,w.g.trans' U.g aj λc o h=>?_⟩
 rcases U.s c o with h|h;exact w.s c h;exact ft J;exact(w.s c h).elim fc (λh=>J)
def WZ.nm(w:WZ h0 h n0 B d ys N f aF l)(g:az (Co N f) h V)(o:Lb V N f aF p):WZ h0 V n0 B d ys N f aF p:=
 ⟨w.k.step w.g.ok g o,w.x,w.n0,w.s,w.g.trans' g aj λ_ _ h=>ft h⟩
def WZ.cr(w:WZ h0 h n0 B d ys N f aF l)(g:az aV h V):WZ h0 V n0 B d ys N f aF l:=
 ⟨w.k.cr w.g.ok g,w.x,w.n0,w.s,w.g.trans g.cr⟩
def WZ.box(w:WZ h0 h n0 B d ys N f aF l)(g:az (· =P) h V)(E:h0.ax<=P)(D:¬cm B ys P)(C:¬Co N f P):WZ h0 V n0 B d ys N f aF l:=
 ⟨⟨w.k.W.go w.g.ok g (λc o t e=>D ⟨o,t▸e⟩),w.k.w.go w.g.ok g (λe=>C (fc e.symm)) (λe=>C (ft e.symm)),w.k.nN,w.k.nb,w.k.PB⟩,w.x,w.n0,w.s,w.g.trans' g aj λc t e=>J⟩
def WZ.trans{o:List YB}(w:WZ h0 h1 n0 B d o N f aF l)(v:WZ h1 h n0 B o ys N f aF p):WZ h0 h n0 B d ys N f aF p:=
 ⟨v.k,v.x,w.n0,λc t=>(v.s c t).elim (w.s c) (λh=>ft (aw w.g.ax)),w.g.trans' v.g aj λc t h=>h.elim (λh=>(w.s c h).elim fc (λh=>J)) ft⟩
def WZ.no(w:WZ h0 h n0 B d ys N f aF l)(t:c<h0.ax)(o:¬cm B d c):¬cm B ys c:=λe=>(w.s c e).elim o J
def vZ{l L:List Int}(h:l <+: L)(o:∀r∈mh v,r∈l):bq l v=bq L v:=by unfold bq;by_cases e:v.1=cd;rw[bH e,bH e,Ao h (o v.2 (by unfold mh;rw[bH e];simp))];rw[bM e,bM e]
def Ce{f:H->List Int}{xs:List H}{x:H}(o:xs[j]?=Z x){l L:List Int}(h:dp l (xs.flatMap f) <+: L):dp (dp l ((xs.take j).flatMap f)) (f x) <+: L:=by
 refine hJ ?_ h;rw[<-ke o];have e:xs.flatMap f=(xs.take (j+1)).flatMap f++(xs.drop (j+1)).flatMap f:=by rw[<-H2,List.take_append_drop]
 rw[e,eW];exact kV _ _
def Pg{H w a:Type}{f:H×w->a}{F:a->a}{d a:List (H×w)}{q:H×w}{x:H×w}(t:a[j]?=Z q)(e:d.map f=((a.map f).take j).map F)(o:f x=F (f q):=by rfl):(d++[x]).map f=((a.map f).take (j+1)).map F:=by rw[aW,e,mw,gu,t,aW];simp[o]
def E8(y:YB)(j:Nat)(x:GI)(A:SV):YB:= {y with ls:=y.ls.set j (x,A)}
def WaZ(h:aB)(n0:Nat)(B:SV)(ys:List YB)(N f aF:Nat)(l L:List Int)(i C:Nat)(y:YB)(x:GI)(A:SV)(e:Env)(m:Nat)(a:Env)(V:aB):Prop:=
 ∃j:Nat,m=Y x.args-j/\j<=Y x.args/\aH WaL e a/\bz a 164 j/\WZ h V n0 B ys (ys.set i (E8 y C {x with args:=(x.args.take j).map (bq L)++x.args.drop j} A)) N f aF (dp l (qk (x.args.take j)))
def an5(q:cy h)(k:NZ h n0 B ys N f aF l)(P:xk B ys)(M:n0<=h.ax){L:List Int}(n:ys[i]?=Z y)(O:y.ls[C]?=Z (x,A))(hL:dp l (qk x.args) <+: L)(hr:ve aF (qk x.args))(z:Y x.args<=1048576)(z:dR h X o g)(oX:¬cm B ys X)(nX:¬Co N f X)(hxc:(o.drop 7).take 1=[A.v])(f3:cg e 3 N)(fX:cg e 20 X)(S:bX e 162=A.v)(fl:bz e 163 (Y x.args))(F:bz e 164 0)(C':∀d V,aH WaL e d->WZ h V n0 B ys (ys.set i (E8 y C {x with args:=x.args.map (bq L)} A)) N f aF (dp l (qk x.args))->T (.exit 18) d V):aN FF (.loop rB) e h T:=by
 have dW:=(cR.mp n).1;have a:=(cR.mp O).1;have p:ys.set i (E8 y C {x with args:=(x.args.take 0).map (bq L)++x.args.drop 0} A)=ys:=by
  have:E8 y C {x with args:=(x.args.take 0).map (bq L)++x.args.drop 0} A=y:=by unfold E8;rw[show y.ls.set C ({x with args:=(x.args.take 0).map (bq L)++x.args.drop 0},A)=y.ls from H4 O]
  rw[this];exact H4 n
 refine aN.loop (WaZ h n0 B ys N f aF l L i C y x A e) ?_ (n:=Y x.args) ⟨0,Q,J,aH.refl _ _,F,by rw[p];exact .refl k P M q⟩;rintro m d V⟨j,rfl,d,M,P,w⟩;have O:=w.g;have G:=O.ok;have q3:=M.at f3;have qX:=M.at fX;have p:=M.at S;have ql:=M.at fl;have S:=O.get q z (λe=>e.elim oX nX);have n:=q.wf _ _ z;have Bh:7+1<=Y o:=by have:=congrArg dk hxc;simp at this;omega
 unfold rB;by_cases F:j<Y x.args
 .have wj:=bZ ((j:Int)+1) J J;have⟨v,z⟩:=aR x.args j F;have⟨D,E⟩:∃D,D=(x.args.take j).map (bq L)++x.args.drop j:=⟨_,Q⟩;have yE:Y ((x.args.take j).map (bq L))=j:=by simp;omega
  have d:D[j]?=Z v:=by rw[E,iN yE,z]
  have q:Y D=Y x.args:=by rw[E];simp;omega
  rw[<-E] at w;have⟨t,DI⟩:∃t,t=E8 y C {x with args:=D} A:=⟨_,Q⟩;rw[<-DI] at w;have n:(ys.set i t)[i]?=Z t:=by rw[fq,bH Q,bH dW]
  have I:t.ls[C]?=Z ({x with args:=D},A):=by rw[DI];simp[E8,a]
  have O:=w.k.W.at n;have a:eo cH V A D:=O.ls _ (cK I);have⟨b,cs,o',s,O,hb,hjA,dM,cV,eI⟩:=a.el d;have d:=a.len;rw[q] at d;have q:=cV 0 2 ai;simp[-ay] at q;simp at p;rw[O,d] at p;have a:(o.drop 7).take 1=[c6 (Z ⟨b,0,K⟩) (Y x.args) A.c]:=by rw[hxc];simp[O,d]
  have rX:cC V X 7 1=Z [c6 (Z ⟨b,0,K⟩) (Y x.args) A.c]:=by rw[fm S Bh,a]
  have d:=G.bU S;have a:=G.st _ _ _ _ _ S;have a:=d.lt;have a:¬X=V.ax:=J
  have lb:=G.wf _ _ hb;simp[q3,qX,p,ql,P,F,q,rX,d,a,-ay,aJ,cw,bh,aK];refine ck.cut (λq=>az aV V q) ((az.refl G).var _ _).tick ?_;intro q a;have d:=w.cr a;have fh:=a.get G S;have S:=a.get G hb;refine ck.call (V:=Ss N f aF _ v q) (ak (uT a.ok d.k.w (hr.at (cK z)) k.PB)) ?_;rintro _ q⟨W,p,rfl⟩;have H:=d.nm W p;have d:cm B (ys.set i t) b:=⟨Z (i,.X C),by rw[cJ n,YB.pW I];exact cj O⟩;have nbS:¬Co N f b:=λe=>by rcases e with e|e;exact w.k.nN (e▸d);exact w.k.nb (e▸d)
  have dZ:=W.get a.ok fh nX;have p:=W.get a.ok S nbS;have a:=dM 0 2 ai;simp at a;have S:g<=V.clock+1:=J
  have⟨u,d⟩:∃u,u=bq (dp (dp l (qk (x.args.take j))) (mh v)) v:=⟨_,Q⟩;rw[<-d];simp[qX,dZ,S,F,p,a,P,wj];have S:=aX (off:=j*2) (vs:=[eX u.1,aL ef u.2]) W.ok p;have A4:=eI u 0 [eX u.1,aL ef u.2] ag rfl (put q b (j*2) cs [eX u.1,aL ef u.2] o') ⟨q.clock,ag⟩;generalize put q b (j*2) cs [eX u.1,aL ef u.2] o'=h4 at*;have a:=H.k.W.at n;have p:eo kh h4 t.L (t.ls.set C ({x with args:=D.set j u},A)):=by refine(a.L.go W.ok S λc q e=>?_).aeX ?_;have:=H.k.W.Gj n .L (.X C) c e (by rw[YB.pW I,q];exact cj O);cases this;rw[dr];have:t.ls.map kh.enc=(t.ls.map kh.enc).set C (kh.enc ({x with args:=D},A)):=(H4 (by rw[gu,I];rfl)).symm;rw[this,wN];rfl
  have U:=(cM.refl H.k.W W.ok).ins (p':=({x with args:=D.set j u},A)) H.x (aw H.g.ax) n I (S.cX (λc _ e=>fc ⟨.X C,ft Q,by rw[YB.pW I,e];exact cj O⟩)) p A4 (λc q=>fc q);have n:=H.ahK U;rw[wN] at n;have a:=Ce (f:=mh) z hL;have S:u=bq L v:=by rw[d];exact vZ a (λr hr=>tc _ _ hr)
  have O:({ t with ls:=t.ls.set C ({x with args:=D.set j u},A) } :YB)=E8 y C {x with args:=(x.args.take (j+1)).map (bq L)++x.args.drop (j+1)} A:=by rw[DI,E];unfold E8;dsimp only;rw[wN,set_drop yE z,S,mw,z,aW];rfl
  rw[O] at n;refine⟨Y x.args-(j+1),J,j+1,Q,F,?_,ag,by unfold qk at n⊢;rw[ke z];exact n⟩
  exact au
 .have:j=Y x.args:=J
  subst this;rw[mI,cG,ye] at w;simp[ql,P];exact C' _ _ (aH.set M) w
def WrZ(h:aB)(n0:Nat)(B:SV)(ys:List YB)(N f aF:Nat)(l L:List Int)(i C:Nat)(y:YB)(d:Int)(row:List (Bool×Int))(A:SV)(e:Env)(m:Nat)(a:Env)(V:aB):Prop:=
 ∃j:Nat,m=Y row-j/\j<=Y row/\aH WrL e a/\bz a 129 j/\WZ h V n0 B ys (ys.set i (qf y C d A ((row.take j).map (bq L)++row.drop j))) N f aF (dp l (qk (row.take j)))
def an6(q:cy h)(k:NZ h n0 B ys N f aF l)(M:xk B ys)(hn:n0<=h.ax){L:List Int}{d:Int}(n:ys[i]?=Z y)(P:y.ps[C]?=Z (⟨d,row⟩,A))(hL:dp l (qk row) <+: L)(hr:ve aF (qk row))(z:Y row<=1048576)(O:dR h X o g)(oX:¬cm B ys X)(nX:¬Co N f X)(hxc:(o.drop 1).take 1=[A.v])(f3:cg e 3 N)(p:cg e 16 X)(S:bX e 127=A.v)(fl:bz e 128 (Y row))(F:bz e 129 0)(C':∀z V,aH WrL e z->WZ h V n0 B ys (ys.set i (qf y C d A (row.map (bq L)))) N f aF (dp l (qk row))->T (.exit 14) z V):aN FF (.loop rD) e h T:=by
 have dW:=(cR.mp n).1;have a:=(cR.mp P).1;have x:ys.set i (qf y C d A ((row.take 0).map (bq L)++row.drop 0))=ys:=by
  have:qf y C d A ((row.take 0).map (bq L)++row.drop 0)=y:=by unfold qf;rw[show y.ps.set C (⟨d,(row.take 0).map (bq L)++row.drop 0⟩,A)=y.ps from H4 P]
  rw[this];exact H4 n
 refine aN.loop (WrZ h n0 B ys N f aF l L i C y d row A e) ?_ (n:=Y row) ⟨0,Q,J,aH.refl _ _,F,by rw[x];exact .refl k M hn q⟩;rintro m z V⟨j,rfl,F,M,P,w⟩;have z:=w.g;have G:=z.ok;have q3:=M.at f3;have qX:=M.at p;have p:=M.at S;have ql:=M.at fl;have S:=z.get q O (λe=>e.elim oX nX);have n:=q.wf _ _ O;have Bh:1+1<=Y o:=by have:=congrArg dk hxc;simp at this;omega
 unfold rD;by_cases F:j<Y row
 .have wj:=bZ ((j:Int)+1) J J;have⟨v,I⟩:=aR row j F;have⟨D,E⟩:∃D,D=(row.take j).map (bq L)++row.drop j:=⟨_,Q⟩;have yE:Y ((row.take j).map (bq L))=j:=by simp;omega
  have q:D[j]?=Z v:=by rw[E,iN yE,I]
  have Be:Y D=Y row:=by rw[E];simp;omega
  rw[<-E] at w;have⟨t,DI⟩:∃t,t=qf y C d A D:=⟨_,Q⟩;rw[<-DI] at w;have x:(ys.set i t)[i]?=Z t:=by rw[fq,bH Q,bH dW]
  have H:t.ps[C]?=Z (⟨d,D⟩,A):=by rw[DI];simp[qf,a]
  have O:=w.k.W.at x;have a:eo cH V A D:=O.ps _ (cK H);obtain⟨b,cs,o',s,O,n,z,dM,z,eI⟩:=a.el q;have q:=a.len;rw[Be] at q;have a:=z 0 2 ai;simp[-ay] at a;simp at p;rw[O,q] at p;have z:(o.drop 1).take 1=[c6 (Z ⟨b,0,K⟩) (Y row) A.c]:=by rw[hxc];simp[O,q]
  have rX:cC V X 1 1=Z [c6 (Z ⟨b,0,K⟩) (Y row) A.c]:=by rw[fm S Bh,z]
  have z:=G.bU S;have q:=G.st _ _ _ _ _ S;have q:=z.lt;have q:¬X=V.ax:=J
  have lb:=G.wf _ _ n;simp[q3,qX,p,ql,P,F,a,rX,z,q,-ay,aJ,cw,bh,aK];refine ck.cut (λq=>az aV V q) ((az.refl G).var _ _).tick ?_;intro q z;have p:=w.cr z;have fh:=z.get G S;have S:=z.get G n;refine ck.call (V:=Ss N f aF _ v q) (ak (uT z.ok p.k.w (hr.at (cK I)) k.PB)) ?_;rintro _ n⟨a,q,rfl⟩;have W:=p.nm a q;have p:cm B (ys.set i t) b:=⟨Z (i,.R C),by rw[cJ x,YB.jM H];exact cj O⟩;have nbS:¬Co N f b:=λe=>by rcases e with e|e;exact w.k.nN (e▸p);exact w.k.nb (e▸p)
  have dZ:=a.get z.ok fh nX;have q:=a.get z.ok S nbS;have z:=dM 0 2 ai;simp at z;have S:g<=V.clock+1:=J
  have⟨u,p⟩:∃u,u=bq (dp (dp l (qk (row.take j))) (mh v)) v:=⟨_,Q⟩;rw[<-p];simp[qX,dZ,S,F,q,z,P,wj];have S:=aX (off:=j*2) (vs:=[eX u.1,aL ef u.2]) a.ok q;have A4:=eI u 0 [eX u.1,aL ef u.2] ag rfl (put n b (j*2) cs [eX u.1,aL ef u.2] o') ⟨n.clock,ag⟩;generalize put n b (j*2) cs [eX u.1,aL ef u.2] o'=h4 at*;have n:=W.k.W.at x;have z:eo iE h4 t.P (t.ps.set C (⟨d,D.set j u⟩,A)):=by refine(n.P.go a.ok S λc q e=>?_).aeX ?_;have:=W.k.W.Gj x .P (.R C) c e (by rw[YB.jM H,q];exact cj O);cases this;rw[dr];have:t.ps.map iE.enc=(t.ps.map iE.enc).set C (iE.enc (⟨d,D⟩,A)):=(H4 (by rw[gu,H];rfl)).symm;rw[this,wN];rfl
  have U:=(cM.refl W.k.W a.ok).row (p':=(⟨d,D.set j u⟩,A)) (aw W.g.ax) x H (S.cX (λc _ e=>fc ⟨.R C,ft Q,by rw[YB.jM H,e];exact cj O⟩)) z A4 (λc q=>fc q);have n:=W.ahK U;rw[wN] at n;have a:=Ce (f:=mh) I hL;have S:u=bq L v:=by rw[p];exact vZ a (λr hr=>tc _ _ hr)
  have O:({t with ps:=t.ps.set C (⟨d,D.set j u⟩,A)} :YB)=qf y C d A ((row.take (j+1)).map (bq L)++row.drop (j+1)):=by rw[DI,E];unfold qf;dsimp only;rw[wN,set_drop yE I,S,mw,I,aW];rfl
  rw[O] at n;refine⟨Y row-(j+1),J,j+1,Q,F,?_,ag,by unfold qk at n⊢;rw[ke I];exact n⟩
  exact au
 .have:j=Y row:=J
  subst this;rw[mI,cG,ye] at w;simp[ql,P];exact C' _ _ (aH.set M) w
end
def uL(p:GP):List Int:=[p.dst]++qk p.row
def Du(L:List Int)(p:GP):GP:=⟨aO L p.dst,p.row.map (bq L)⟩
section
variable{h:aB}{n0:Nat}{B:SV}{ys:List YB}{N f aF:Nat}{l:List Int}
def WpZ(h:aB)(n0:Nat)(B:SV)(ys:List YB)(N f aF:Nat)(l L:List Int)(i:Nat)(y:YB)(e:Env)(m:Nat)(a:Env)(V:aB):Prop:=
 ∃(j:Nat) (d:List (GP×SV)),m=Y y.ps-j/\j<=Y y.ps/\Y d=j/\aH WpL e a/\bz a 112 j/\WZ h V n0 B ys (ys.set i {y with ps:=d++y.ps.drop j}) N f aF (dp l ((y.ps.take j).flatMap λq=>uL q.1))/\d.map (·.1)=((y.ps.map (·.1)).take j).map (Du L)
def acH(A:cy h)(k:NZ h n0 B ys N f aF l)(a:xk B ys)(r:n0<=h.ax){L:List Int}(n:ys[i]?=Z y)(hL:dp l (y.ps.flatMap λq=>uL q.1) <+: L)(hr:ve aF (y.ps.flatMap λq=>uL q.1))(b:Y y.ps<=1048576)(w_:∀q∈y.ps,Y q.1.row<=1048576)(O:dR h X o g)(oX:¬cm B ys X)(S:¬Co N f X)(hxc:o.take 1=[y.P.v])(z:cg e 3 N)(v:cg e 14 X)(P:bX e 110=y.P.v)(F:bz e 111 (Y y.ps))(t:bz e 112 0)(C:∀d V x,aH WpL e d->WZ h V n0 B ys (ys.set i {y with ps:=x}) N f aF (dp l (y.ps.flatMap λq=>uL q.1))->x.map (·.1)=(y.ps.map (·.1)).map (Du L)->T (.exit 12) d V):aN FF (.loop rE) e h T:=by
 have dW:=(cR.mp n).1;have b:ys.set i {y with ps:=[]++y.ps.drop 0} =ys:=H4 n;refine aN.loop (WpZ h n0 B ys N f aF l L i y e) ?_ (n:=Y y.ps) ⟨0,[],Q,J,Q,aH.refl _ _,t,by rw[b];exact .refl k a r A,ag⟩;rintro m d V⟨j,t,rfl,d,hd,M,W,w,Md⟩;have p:=w.g;have b:=p.ok;have q3:=M.at z;have Gy:=M.at v;have d:=M.at P;have aur:=M.at F;have z:=p.get A O (λe=>e.elim oX S);have lX0:=A.wf _ _ O;have v:1<=Y o:=by have:=congrArg dk hxc;simp at this;omega
 unfold rE;by_cases F:j<Y y.ps
 .have wj:=bZ ((j:Int)+1) J J;obtain⟨q,p⟩:=aR y.ps j F;have A:=iN (qs:=y.ps) hd;rw[p] at A;obtain⟨D,I⟩:∃D:YB,D= {y with ps:=t++y.ps.drop j} :=⟨_,Q⟩;rw[<-I] at w;have O:(ys.set i D)[i]?=Z D:=by rw[fq,bH Q,bH dW]
  have n:D.ps[j]?=Z q:=by rw[I];exact A
  have R:=w.k.W.at O;have a:eo iE V y.P D.ps:=by have:=R.P;rw[I] at this⊢;exact this
  have A:Y D.ps=Y y.ps:=by rw[I];simp;omega
  obtain⟨v,r,x,s,P,r,_,r,r,_⟩:=a.el n;have x:=r 0 2 ai;simp[-ay] at x;have r:=a.len;have a:=R.ps q (cK n);have pD:=a.len;have hI:=hr.at (cK p);simp at d;rw[P,r,A] at d;have X8:(o.drop 0).take 1=[c6 (Z ⟨v,0,K⟩) (Y y.ps) y.P.c]:=by rw[List.drop_zero,hxc];simp[P,r,A]
  have a:cC V X 0 1=Z [c6 (Z ⟨v,0,K⟩) (Y y.ps) y.P.c]:=by rw[fm z J,X8]
  have r:=b.bU z;have A:=b.st _ _ _ _ _ z;have A:=r.lt;have A:¬X=V.ax:=J
  simp[q3,Gy,d,aur,W,F,x,a,r,A,-ay,aJ,cw,bh,aK];refine ck.cut (λA=>az aV V A/\c_ A V.ax [dC ef q.1.dst,c6 q.2.a q.2.l q.2.c]) ?_ ?_;exact⟨((az.refl b).var _ _).tick,V.clock,by simp[bg]⟩;rintro A⟨a,x,XD⟩;have r:=w.cr a;have fh:=a.get b z;refine ck.call (V:=XX N f aF _ q.1.dst A) (ak (ze a.ok r.k.w (hI q.1.dst (by simp[uL])) k.PB)) ?_;rintro _ x⟨H,A,rfl⟩;have d:=r.nm H A;have dZ:=H.get a.ok fh S;obtain⟨S,r⟩:=w.k.lt b;have z:¬Co N f V.ax:=λe=>by rcases e with e|e<;>omega
  have Wd:=H.get a.ok XD z;have Y3:=d.k.W.at O;have r:eo iE x y.P D.ps:=by have:=Y3.P;rw[I] at this⊢;exact this
  obtain⟨S,cs3,o3,S,S,A,_,Ud,_,Uo⟩:=r.el n;rw[P] at S;cases S;have S:=Ud 0 1 ai;simp at S;have Lq:g<=V.clock+1:=J
  have r:D.loc .P=Z v:=by rw[I];exact cj P
  have P:cm B (ys.set i D) v:=⟨Z (i,.P),by rw[cJ O];exact r⟩;have nYP:¬V.ax=v:=λe=>aw (w.k.W.j8 b P)
  have noX:¬cm B (ys.set i D) X:=w.no lX0 oX;obtain⟨u,eu⟩:∃u,u=aO (dN (dp l ((y.ps.take j).flatMap λq=>uL q.1)) q.1.dst) q.1.dst:=⟨_,Q⟩;rw[<-eu];simp[Gy,dZ,Lq,F,A,S,nYP,Wd];have S:=aX (off:=j*2) (vs:=[aL ef u]) H.ok A;have A:=Uo (⟨u,q.1.row⟩,q.2) 0 [dC ef u] ag rfl (put x v (j*2) cs3 [aL ef u] o3) ⟨x.clock,ag⟩;have We:=S.get H.ok Wd nYP;have iG:=S.get H.ok dZ (λe=>noX (e▸P));generalize put x v (j*2) cs3 [aL ef u] o3=h4 at*;have P:=a.ok.wf _ _ XD;have a:=H.ax;have x:=S.ax;have P:=Y3.ps q (cK n);have U:=(cM.refl d.k.W H.ok).row (p':=(⟨u,q.1.row⟩,q.2)) (aw d.g.ax) O n (S.cX (λc _ e=>fc ⟨.P,fc Q,by rw[e];exact r⟩)) (by rw[I] at A⊢;exact A) (P.go H.ok S λc A e=>by have:=d.k.W.Gj O .P (.R j) c (by rw[A];exact r) (by rw[YB.jM n];exact e);cases this) (λc A=>fc A)
  have x:=d.ahK U;rw[wN] at x;obtain⟨v,G⟩:∃v:YB,v= {D with ps:=D.ps.set j (⟨u,q.1.row⟩,q.2)} :=⟨_,Q⟩;rw[<-G] at x;have r:(ys.set i v)[i]?=Z v:=by rw[fq,bH Q,bH dW]
  have S:v.ps[j]?=Z (⟨u,q.1.row⟩,q.2):=by rw[G];simp[(cR.mp n).1]
  have E:=Ce (f:=λq:GP×SV=>uL q.1) p hL;unfold uL at E;rw[eW] at E;have d:¬cm B (ys.set i v) V.ax:=λe=>by rcases(U.s V.ax (by rw[wN,<-G];exact e)) with h|h;have:=w.k.W.j8 b h;omega;omega
  refine an6 x.g.ok x.k x.x (aw x.g.ax) r S E hI.snd (w_ q (cK p)) We d z rfl (av q3) ag ag (av pD) ag ?_;intro P S S b;have a:=S.at (t:=112) (aq W);simp[a,wj];have r:=x.trans b;rw[wN] at r;have b:u=aO L q.1.dst:=by rw[eu];exact(Ao (hJ (kV _ _) E) (HN _ _)).symm
  refine⟨Y y.ps-(j+1),J,j+1,t++[(Du L q.1,q.2)],Q,F,av hd,?_,ag,?_,Pg p Md⟩
  .refine aH.set (aH.set (aH.trans ?_ (S.cX)))
   exact au
  .have n:qf v j u q.2 (q.1.row.map (bq L))= {y with ps:=(t++[(Du L q.1,q.2)])++y.ps.drop (j+1)} :=by rw[G,I];unfold qf Du;dsimp only;rw[wN,set_drop hd p,b]
   rw[n] at r;rw[ke p];unfold uL at r⊢;rw[eW];exact r
 .have:j=Y y.ps:=J
  subst this;rw[cG,ye,mI] at w;simp[aur,W];exact C _ _ t (aH.set M) w (by rw[Md,nz ag])
end
def qe(L:List Int)(x:GI):GI:=⟨x.op,if 0<=x.dst then aO L x.dst else x.dst,bq L x.a,bq L x.b,x.fn,x.args.map (bq L)⟩
section
variable{h:aB}{n0:Nat}{B:SV}{ys:List YB}{N f aF:Nat}{l:List Int}
def ahS(E:cy h)(k:NZ h n0 B ys N f aF l)(j:xk B ys)(j:n0<=h.ax)(j:ve aF (mh x.a))(n:ve aF (mh x.b)){P m h0:Nat}(I:dR h P [dC ef x.op,dC ef x.dst,dd x.a.1,dC ef x.a.2,dd x.b.1,dC ef x.b.2,dC ef x.fn,c6 A.a A.l A.c] m)(m:¬cm B ys P)(b:¬Co N f P)(d:cg e 3 N)(t:cg e 20 P)(C:∀a V s,aH WlD e a->az (λz=>Co N f z\/z=P) h V->NZ V n0 B ys N f aF (dp (dp l (mh x.a)) (mh x.b))->V.tr.get P=Z (.ch [dC ef x.op,dC ef x.dst,dd (bq (dp l (mh x.a)) x.a).1,dC ef (bq (dp l (mh x.a)) x.a).2,dd (bq (dp (dp l (mh x.a)) (mh x.b)) x.b).1,dC ef (bq (dp (dp l (mh x.a)) (mh x.b)) x.b).2,dC ef x.fn,c6 A.a A.l A.c] b9 0 s)->T .normal a V):aN FF ZL e h T:=by
 have a:=E.bU I;have p:=E.st _ _ _ _ _ I;unfold ZL;simp[d,t,I,aD I,a];have a:=(bk E).ok;have d:az aV h (tick h):=bk E;generalize tick h=h1 at a d⊢;have g:=k.cr E d;have q:=d.get E I;refine ck.call (V:=Ss N f aF l x.a h1) (ak (uT a g.w j k.PB)) ?_;rintro _ j⟨D,r,rfl⟩;have i:=g.step a D r;have g:=D.get a q b;simp[t,g,p];refine ck.call (V:=Ss N f aF _ x.b j) (ak (uT D.ok i.w n k.PB)) ?_;rintro _ a⟨G,j,rfl⟩;have H:=i.step D.ok G j;have i:=G.get D.ok g b;simp[t,i];have⟨u,j⟩:∃u,u=bq (dp l (mh x.a)) x.a:=⟨_,Q⟩;have⟨w,g⟩:∃u,u=bq (dp (dp l (mh x.a)) (mh x.b)) x.b:=⟨_,Q⟩;rw[<-j,<-g] at C⊢;have W:=((az.refl G.ok).put (S:=(· =P)) (off:=2) (vs:=[eX u.1,aL ef u.2]) ⟨_,i⟩ (ft Q)).put (b:=P) (off:=4) (cs:=[dC ef x.op,dC ef x.dst,dd u.1,dC ef u.2,dd x.b.1,dC ef x.b.2,dC ef x.fn,c6 A.a A.l A.c]) (o:=0) (vs:=[eX w.1,aL ef w.2]) ⟨a.clock,by simp[bg]⟩ (ft Q);refine C _ _ (a.clock+1) ?_ ?_ ?_ ?_
 .repeat (refine aH.set ?_)
  exact aH.refl _ _
 exact((d.cr.trans (D.cX (λz _ h=>fc h))).trans (G.cX (λz _ h=>fc h))).trans (W.cX (λz _ h=>ft h));exact⟨H.W.go G.ok W (λc o z e=>m ⟨o,z▸e⟩),H.w.go G.ok W (λe=>b (fc e.symm)) (λe=>b (ft e.symm)),H.nN,H.nb,H.PB⟩;rw[bc];rfl
def VQ(H:cy h)(k:NZ h n0 B ys N f aF l)(b:xk B ys)(d:n0<=h.ax)(W:ys[i]?=Z y)(w:y.ls[j]?=Z (x,A))(M:x'.args=x.args)(m:dR h X o g)(E:(o.drop 1).take 1=[y.L.v]){P O:Nat}(v:dR h P (kh.enc (x',A)) O)(O:cg e 14 X)(z:bz e 19 j)(F:cg e 20 P)(C:∀a V,aH [185,186,187,188,189] e a->WZ h V n0 B ys (ys.set i (E8 y j x' A)) N f aF l->T .normal a V):aN FF ZI e h T:=by
 have R:=k.W.at W;have⟨G,q,L,s,D,t,_,u,_,n⟩:=R.L.el w;have p:=(cR.mp w).1;have r:=R.L.len;have a:1+1<=Y o:=by have:=congrArg dk E;simp at this;omega
 have S:(o.drop 1).take 1=[c6 (Z ⟨G,0,K⟩) (Y y.ls) y.L.c]:=by rw[E];simp[D,r]
 have r:cC h X 1 1=Z [c6 (Z ⟨G,0,K⟩) (Y y.ls) y.L.c]:=by rw[fm m a,S]
 have a:=u 0 8 ai;simp at a;have I:=v;simp only[KD] at I;simp at I;have m:y.loc .L=Z G:=cj D;unfold ZI;simp[O,z,F,r,I,aD I,p,t,a,-ay];have a:=aX (off:=j*8) (vs:=[aL ef x'.op,dC ef x'.dst,dd x'.a.1,dC ef x'.a.2,dd x'.b.1,dC ef x'.b.2,dC ef x'.fn,c6 A.a A.l A.c]) H t;have p:=n (x',A) 0 [aL ef x'.op,dC ef x'.dst,dd x'.a.1,dC ef x'.a.2,dd x'.b.1,dC ef x'.b.2,dC ef x'.fn,c6 A.a A.l A.c] ag rfl (put h G (j*8) q [aL ef x'.op,dC ef x'.dst,dd x'.a.1,dC ef x'.a.2,dd x'.b.1,dC ef x'.b.2,dC ef x'.fn,c6 A.a A.l A.c] L) ⟨h.clock,ag⟩;have q:eo cH h A x.args:=R.ls _ (cK w);have U:=(cM.refl k.W H).ins (p':=(x',A)) b d W w (a.cX (λc _ e=>fc ⟨.L,fc Q,by rw[e];exact m⟩)) p (by show eo cH _ A x'.args;rw[M];exact q.go H a λc a e=>by have:=k.W.Gj W .L (.X j) c (by rw[a];exact m) (by rw[YB.pW w];exact e);cases this) (λc a=>fc a)
 refine C _ _ ?_ ((WZ.refl k b d H).ahK U)
 repeat (refine aH.set ?_)
 exact aH.refl _ _
def WlZ(h:aB)(n0:Nat)(B:SV)(ys:List YB)(N f aF:Nat)(l L:List Int)(i:Nat)(y:YB)(e:Env)(m:Nat)(a:Env)(V:aB):Prop:=
 ∃(j:Nat) (d:List (GI×SV)),m=Y y.ls-j/\j<=Y y.ls/\Y d=j/\aH WlL e a/\bz a 146 j/\WZ h V n0 B ys (ys.set i {y with ls:=d++y.ls.drop j}) N f aF (dp l ((y.ls.take j).flatMap λq=>Cw q.1))/\d.map (·.1)=((y.ls.map (·.1)).take j).map (qe L)
def acG(S:cy h)(k:NZ h n0 B ys N f aF l)(F:xk B ys)(hn:n0<=h.ax){L:List Int}(n:ys[i]?=Z y)(hL:dp l (y.ls.flatMap λq=>Cw q.1) <+: L)(u:ve aF (y.ls.flatMap λq=>Cw q.1))(b:Y y.ls<=1048576)(al:∀q∈y.ls,Y q.1.args<=1048576)(a:dR h X o g)(oX:¬cm B ys X)(d:¬Co N f X)(hxc:(o.drop 1).take 1=[y.L.v])(f3:cg e 3 N)(M:cg e 14 X)(p:bX e 144=y.L.v)(P:bz e 145 (Y y.ls))(v:bz e 146 0)(C:∀U V r,aH WlL e U->WZ h V n0 B ys (ys.set i {y with ls:=r}) N f aF (dp l (y.ls.flatMap λq=>Cw q.1))->r.map (·.1)=(y.ls.map (·.1)).map (qe L)->T (.exit 16) U V):aN FF (.loop rC) e h T:=by
 have dW:=(cR.mp n).1;have b:ys.set i {y with ls:=[]++y.ls.drop 0} =ys:=H4 n;refine aN.loop (WlZ h n0 B ys N f aF l L i y e) ?_ (n:=Y y.ls) ⟨0,[],Q,J,Q,aH.refl _ _,v,by rw[b];exact .refl k F hn S,ag⟩;rintro m U V⟨j,t,rfl,v,hd,z,aox,w,Md⟩;have O:=w.g;have v:=O.ok;have q3:=z.at f3;have Gy:=z.at M;have r:=z.at p;have auv:=z.at P;have M:=O.get S a (λe=>e.elim oX d);have lX0:=S.wf _ _ a;unfold rC;by_cases bp:j<Y y.ls
 .have wj:=bZ ((j:Int)+1) J J;obtain⟨q,p⟩:=aR y.ls j bp;obtain⟨x,A⟩:=q;have n:=iN (qs:=y.ls) hd;rw[p] at n;obtain⟨E,a⟩:∃E:YB,E= {y with ls:=t++y.ls.drop j} :=⟨_,Q⟩;rw[<-a] at w;have A8:(ys.set i E)[i]?=Z E:=by rw[fq,bH Q,bH dW]
  have S:E.ls[j]?=Z (x,A):=by rw[a];exact n
  have R:=w.k.W.at A8;have F:eo kh V y.L E.ls:=by have:=R.L;rw[a] at this⊢;exact this
  have XJ:Y E.ls=Y y.ls:=by rw[a];simp;omega
  obtain⟨n,b,U,s,ha,n,_,n,b,_⟩:=F.el S;have U:=b 0 8 ai;simp[-ay] at U;have kA:=F.len;have n:eo cH V A x.args:=R.ls _ (cK S);have pD:=n.len;have hI:=u.at (cK p);have D:=Ce (f:=λq:GI×SV=>Cw q.1) p hL;obtain⟨n,F⟩:∃n,n=dp l ((y.ls.take j).flatMap λq=>Cw q.1):=⟨_,Q⟩;rw[<-F] at w D;have b:=ke (f:=λq:GI×SV=>Cw q.1) p l;rw[<-F] at b;dsimp only at D b;unfold Cw at D b;rw[eW,eW,eW] at D b;have p3:=hJ (kV _ _) D;have F:=hJ (kV _ _) p3;have P:=hJ (kV _ _) F;have GY:bq (dp n (mh x.a)) x.a=bq L x.a:=vZ P (λP u=>tc _ _ u);have iA:bq (dp (dp n (mh x.a)) (mh x.b)) x.b=bq L x.b:=vZ F (λP u=>tc _ _ u);simp at r;rw[ha,kA,XJ] at r;simp[r,auv,aox,bp,U,-ay,aJ];refine aN.cut (λU=>az aV V U/\c_ U V.ax [dC ef x.op,dC ef x.dst,dd x.a.1,dC ef x.a.2,dd x.b.1,dC ef x.b.2,dC ef x.fn,c6 A.a A.l A.c]) ?_ ?_
  exact⟨(az.refl v).var _ _,V.clock,by simp[bg]⟩;rintro U⟨U,P,P⟩;have r:=w.cr U;have fh:=U.get v M;obtain⟨F,F⟩:=w.k.lt v;have u:=v.wf _ _ M;have F:=U.ok.wf _ _ P;have M:=O.ax;have M:¬Co N f V.ax:=λe=>by rcases e with e|e<;>omega
  have F:¬cm B (ys.set i E) V.ax:=λe=>aw (w.k.W.j8 v e)
  have noX:¬cm B (ys.set i E) X:=w.no lX0 oX;refine ahS U.ok r.k r.x (by have:=r.g.ax;have:=r.n0;omega) (h0:=0) hI.fst hI.snd.fst P F M (av q3) ag ?_;intro u h3 v P O k3 v;rw[GY,iA] at v;have dZ:=O.get U.ok fh (λe=>by rcases e with e|e;exact d e;omega);have a3:=P.at (t:=3) (aq q3);have a14:=P.at (t:=14) (aq Gy);have a19:bX u 19=dC ef j:=P.at ag;have a20:cg u 20 V.ax:=P.at ag;have a146:=P.at (t:=146) (aq aox);have U:aH WlL e u:=by
   refine aH.trans ?_ (P.cX)
   exact au
  have U:=O.ax;have P:WZ h h3 n0 B ys (ys.set i E) N f aF (dp (dp n (mh x.a)) (mh x.b)):=⟨k3,r.x,hn,w.s,r.g.trans' O aj λc U e=>by rcases e with e|e;exact ft e;omega⟩
  simp[a20,v];refine an5 O.ok k3 r.x (aw r.g.ax) (L:=L) A8 S p3 hI.snd.snd.fst (al _ (cK p)) v F M rfl (av a3) (by simp[a20]) ag (av pD) ag ?_;intro r h4 U H;have u:=H.g.get O.ok v (λe=>e.elim F M);have iG:=H.g.get O.ok dZ (λe=>e.elim noX d);have b3:=U.at (t:=3) (aq a3);have b14:=U.at (t:=14) (aq a14);have b19:=U.at (t:=19) (aq a19);have G:=U.at (t:=20) (aq a20);have aqX:=U.at (t:=146) (aq a146);have O:aH WlL e r:=by
   refine aH.trans ?_ (U.cX)
   exact au
  have W:=P.trans H;rw[wN] at W;have r:=H.g.ax;obtain⟨I,U⟩:∃I:YB,I=E8 E j {x with args:=x.args.map (bq L)} A:=⟨_,Q⟩;rw[<-U] at W H;have hy2:(ys.set i I)[i]?=Z I:=by rw[fq,bH Q,bH dW]
  have XU:I.ls[j]?=Z ({x with args:=x.args.map (bq L)},A):=by rw[U];simp[E8,(cR.mp S).1]
  have oY2:¬cm B (ys.set i I) V.ax:=λe=>by have:=H.s V.ax (by rw[wN];exact e);rcases this with h|h;exact F h;omega
  have O:I.L=y.L:=by rw[U,a];rfl
  have r:(o.drop 1).take 1=[I.L.v]:=by rw[O];exact hxc
  have P:∀x':GI,E8 I j x' A= {y with ls:=(t++[(x',A)])++y.ls.drop (j+1)} :=λx'=>by rw[U,a];unfold E8;dsimp only;rw[wN,set_drop hd p]
  have fin:∀(v:Env)(O:aB),aH WlL e v->WZ h O n0 B ys (ys.set i (E8 I j (qe L x) A)) N f aF (dp l ((y.ls.take (j+1)).flatMap λq=>Cw q.1))->∃m,m<Y y.ls-j/\WlZ h n0 B ys N f aF l L i y e m (Tr.set (Tr.set v 190 (dC ef ((j:Int)+1))) 146 (dC ef ((j:Int)+1))) O:=by intro v O v a;rw[P] at a;exact⟨Y y.ls-(j+1),J,j+1,t++[(qe L x,A)],Q,bp,av hd,aH.set (aH.set v),ag,a,Pg p Md⟩
  by_cases P:0<=x.dst
  .rw[bH P,ags] at D b;have U:=hI.snd.snd.snd;rw[bH P] at U;simp[b3,G,u,P];refine bm.call (V:=XX N f aF _ x.dst h4) (ak (ze H.g.ok H.k.w (U x.dst ag) k.PB)) ?_;rintro _ p⟨v,S,rfl⟩;have a:=W.nm v S;have F:=v.get H.g.ok u M;have U:=v.get H.g.ok iG d;have S:aO (dN (dp (dp (dp n (mh x.a)) (mh x.b)) (qk x.args)) x.dst) x.dst=aO L x.dst:=(Ao D (HN _ _)).symm;rw[S];simp[G,F];have n:=(az.refl v.ok).put (S:=(· =V.ax)) (off:=1) (vs:=[aL ef (aO L x.dst)]) ⟨_,F⟩ (ft Q);have S:∃s,(put p V.ax 1 [dC ef x.op,dC ef x.dst,dd (bq L x.a).1,dC ef (bq L x.a).2,dd (bq L x.b).1,dC ef (bq L x.b).2,dC ef x.fn,c6 A.a A.l A.c] [aL ef (aO L x.dst)] 0).tr.get V.ax=Z (.ch (kh.enc (qe L x,A)) b9 0 s):=⟨p.clock,by rw[bc];unfold qe;simp[P]⟩;have d:=n.get v.ok U J;have v:=a.box n J oY2 M;generalize put p V.ax 1 _ _ 0=O at*;obtain⟨F,S⟩:=S;refine VQ v.g.ok v.k v.x (aw v.g.ax) hy2 XU (x':=qe L x) rfl d r S (av b14) (av b19) (av G) ?_;intro a S p O;have F:=v.trans O;rw[wN] at F;have n:=p.at (t:=146) (aq aqX);simp[n,wj];refine fin a S ?_ (by unfold Cw;rw[b];exact F);refine aH.trans ?_ (p.cX)
   exact au
  .rw[bM P] at D b;simp[G,u,P];have v:qe L x=⟨x.op,x.dst,bq L x.a,bq L x.b,x.fn,x.args.map (bq L)⟩:=by unfold qe;rw[bM P]
   refine VQ W.g.ok W.k W.x (aw W.g.ax) hy2 XU (x':=qe L x) rfl iG r (by rw[v];exact u) (av b14) (av b19) (av G) ?_;intro a S p O;have F:=W.trans O;rw[wN] at F;have n:=p.at (t:=146) (aq aqX);simp[n,wj];refine fin a S ?_ (by unfold Cw;rw[b];exact F);refine aH.trans ?_ (p.cX)
   exact au
 .have:j=Y y.ls:=J
  subst this;rw[cG,ye,mI] at w;simp[auv,aox];exact C _ _ t (aH.set z) w (by rw[Md,nz ag])
end
def Ix(b:GB):List Int:=b.aP.flatMap uL++(b.list.flatMap Cw++mh b.on)
def zn(L:List Int)(b:GB):GB:=⟨b.aP.map (Du L),b.list.map (qe L),b.kind,bq L b.on,b.to⟩
def ae8(y:YB):Ix y.g=(y.ps.flatMap λq=>uL q.1)++((y.ls.flatMap λq=>Cw q.1)++mh y.on):=by unfold Ix YB.g;rw[rO,rO]
section
variable{h:aB}{n0:Nat}{B:SV}{ys:List YB}{N f aF:Nat}{l:List Int}
def FZ.on{V:aB}{C:Nat}(w:FZ h n0 B ys)(H:cy h)(k:n0<=h.ax){i:Nat}{y:YB}(G:ys[i]?=Z y)(I:B.a=Z ⟨C,0,K⟩)(g:az (· =C) h V){u:Bool×Int}(j:eo eH V B (ys.set i {y with on:=u})):cM h V n0 B ys B (ys.set i {y with on:=u}):=by
 have P:=w.at G;have f:∀c,c=C->∀o,fx B ys o=Z c->o=K:=λc t o D=>(w.uO K o c (by rw[t];exact cj I) D).symm;have no:∀c l,c=C->y.loc l≠Z c:=λc l t e=>by have:=f c t (Z (i,l)) (by rw[cJ G];exact e);cases this
 have d:=P.go H g no;have E:∀l,({y with on:=u} :YB).loc l=y.loc l:=λl=>by cases l<;>rfl
 have⟨a,b,c⟩:=w.uY H g k G (λc t o D=>fc (f c t o D)) j ⟨d.P,d.L,d.T,d.ps,d.ls⟩ (λp j a b c h1 d=>j a b c (by rw[<-E a];exact h1) (by rw[<-E b];exact d)) (λl c d=>fc ⟨l,by rw[<-E l];exact d,id⟩);exact⟨a,b,g.cX λx _ e=>⟨K,by rw[e];exact cj I⟩,c⟩
def ahR(o:cy h)(k:NZ h n0 B ys N f aF l)(m:xk B ys)(r:n0<=h.ax)(D:ys[j]?=Z y)(q:ve aF (mh y.on)){F t:Nat}{p L:Int}(b:dR h F (aC name p L B) t)(p:¬cm B ys F)(p:¬Co N f F){P L i:aa}{s:Int}(I:dR h X [P,L,dC ef s,dd y.on.1,dC ef y.on.2,i] g)(i:cg e 1 F)(s:cg e 3 N)(v:bz e 13 j)(d:cg e 14 X)(C:∀F V,aH WbD e F->WZ h V n0 B ys (ys.set j {y with on:=bq (dp l (mh y.on)) y.on}) N f aF (dp l (mh y.on))->T .normal F V):aN FF ZF e h T:=by
 have L:=(cR.mp D).1;obtain⟨z,F,F,F,c,F,_,F,F,_⟩:=k.W.A.el D;have F:=k.W.A.len;have a:=b;simp[aC] at a;rw[c,F] at a;have F:=o.bU b;have x:=o.bU I;have n:=o.st _ _ _ _ _ b;unfold ZF;simp[i,s,v,d,a,I,aD a,aD I,F,x];have F:=(bk o).ok;have b:az aV h (tick h):=bk o;generalize tick h=h1 at F b⊢;have d:=(WZ.refl k m r o).cr b;have m:=b.get o a;refine ck.call (V:=Ss N f aF _ y.on h1) (ak (uT F d.k.w q k.PB)) ?_;rintro _ a⟨w,b,rfl⟩;have E:=d.nm w b;have b:=w.get F m p;obtain⟨F,G,H,F,d,F,_,W,_,m⟩:=E.k.W.A.el D;rw[c] at d;cases d;have d:=W 3 2 ai;simp at d;have⟨u,p⟩:∃u,u=bq (dp l (mh y.on)) y.on:=⟨_,Q⟩;rw[<-p] at C⊢;simp[i,b,n,L,F,d];have d:=aX (off:=j*6+3) (vs:=[eX u.1,aL ef u.2]) w.ok F;have F:=m {y with on:=u} 3 [eX u.1,aL ef u.2] ag rfl (put a z (j*6+3) G [eX u.1,aL ef u.2] H) ⟨a.clock,ag⟩;refine C _ _ ?_ (E.ahK (E.k.W.on w.ok (aw E.g.ax) D c d F))
 repeat (refine aH.set ?_)
 exact aH.refl _ _
def axX(h:aB)(n0:Nat)(B:SV)(ys:List YB)(N f aF:Nat)(l L:List Int)(F:Nat)(v2:aa)(m:Nat)(a:Env)(V:aB):Prop:=
 ∃(j:Nat) (d:List YB),m=Y ys-j/\j<=Y ys/\Y d=j/\cg a 1 F/\bX a 2=v2/\cg a 3 N/\bX a 102=B.v/\bz a 103 (Y ys)/\bz a 104 j/\WZ h V n0 B ys (d++ys.drop j) N f aF (dp l ((ys.take j).flatMap λy=>Ix y.g))/\d.map YB.g=((ys.map YB.g).take j).map (zn L)
def UO(A:cy h)(k:NZ h n0 B ys N f aF l)(u:xk B ys)(r:n0<=h.ax){L:List Int}(i:dp l (ys.flatMap λy=>Ix y.g) <+: L)(hr:ve aF (ys.flatMap λy=>Ix y.g))(z:Y ys<50)(sz:∀y∈ys,SzZ y){F t:Nat}{p a:Int}(hF:dR h F (aC name p a B) t)(oF:¬cm B ys F)(nF:¬Co N f F)(x:cg e 1 F)(U:bX e 2=v2)(S:cg e 3 N)(p:bX e 102=B.v)(c:bz e 103 (Y ys))(d:bz e 104 0)(C:∀X V z,cg X 1 F->bX X 2=v2->cg X 3 N->WZ h V n0 B ys z N f aF (dp l (ys.flatMap λy=>Ix y.g))->z.map YB.g=(ys.map YB.g).map (zn L)->T (.exit 10) X V):aN FF (.loop rF) e h T:=by
 refine aN.loop (axX h n0 B ys N f aF l L F v2) ?_ (n:=Y ys) ⟨0,[],Q,J,Q,x,U,S,p,c,d,.refl k u r A,ag⟩;rintro m X V⟨j,U,rfl,v,p,q1,q2,a,D,aor,P,w,Md⟩;have M:=w.g;have x:=M.ok;have lF:=A.wf _ _ hF;unfold rF;by_cases u:j<Y ys
 .have wj:=bZ ((j:Int)+1) J J;have⟨r,S⟩:=aR ys j u;have X:=iN (qs:=ys) p;rw[S] at X;have⟨z,W⟩:∃z,z=U++ys.drop j:=⟨_,Q⟩;rw[<-W] at w X;have u0:Y z=Y ys:=by rw[W];simp;omega
  have d:=cK S;have n:=sz r d;have v:=n.p;have O:=n.l;have F:=hr.at d;rw[ae8] at F;have Q1:=Ce (f:=λy:YB=>Ix y.g) S i;have tk:=ke (f:=λy:YB=>Ix y.g) S l;rw[ae8,eW,eW] at Q1 tk;have p2:=hJ (kV _ _) Q1;have p1:=hJ (kV _ _) p2;have R:=w.k.W.at X;obtain⟨b,O,o,s,ha,O,_,_,d,_⟩:=w.k.W.A.el X;have i:=d 0 6 ai;simp[-ay] at i;have dq:=w.k.W.A.len;have O:=R.P.len;have kA:=R.L.len;simp at D;rw[ha,dq,u0] at D;simp[D,aor,P,u,i,-ay,aJ,O];refine aN.cut (λc=>az aV V c/\c_ c V.ax (GZ r)) ?_ ?_
  exact⟨(az.refl x).var _ _,V.clock,by simp[bg,O,GZ]⟩;rintro c⟨i,g,c⟩;have d:=w.cr i;obtain⟨v,v⟩:=w.k.lt x;have v:=M.ax;have l2:=i.ok.wf _ _ c;have v:¬Co N f V.ax:=λe=>by rcases e with e|e<;>omega
  have oX:¬cm B z V.ax:=λe=>aw (w.k.W.j8 x e)
  refine acH i.ok d.k d.x (aw d.g.ax) (L:=L) X p1 F.fst J (λq x=>aw (n.r q x)) c oX v rfl (av a) ag (av O) ag ag ?_;intro O X M E H Mq;have a1:=E.at (t:=1) (aq q1);have a2:=E.at (t:=2) (aq q2);have a3:=E.at (t:=3) (aq a);have a13:bX O 13=dC ef j:=E.at ag;have X:cg O 14 V.ax:=E.at ag;have ax5:=E.at (t:=102) (aq D);have ax6:=E.at (t:=103) (aq aor);have ax7:=E.at (t:=104) (aq P);have O:=H.g.get i.ok c (λe=>e.elim oX v);have i:=H.no l2 oX;have hr3:(z.set j {r with ps:=M})[j]?=Z {r with ps:=M} :=by rw[fq,bH Q,bH J]
  have c:=O;simp[GZ] at c;have l3:=H.g.ax;simp[X,c];refine acG H.g.ok H.k H.x (aw d.g.ax) (L:=L) hr3 p2 F.snd.fst (by show Y r.ls<=_;omega) (λq x=>aw (n.a q x)) O i v rfl (av a3) (av X) ag (av kA) ag ?_;intro c h4 I G c Ml;have b1:=G.at (t:=1) (aq a1);have b2:=G.at (t:=2) (aq a2);have n:=G.at (t:=3) (aq a3);have b13:=G.at (t:=13) (aq a13);have b14:=G.at (t:=14) (aq X);have aye:=G.at (t:=102) (aq ax5);have ayf:=G.at (t:=103) (aq ax6);have ayg:=G.at (t:=104) (aq ax7);rw[wN] at c;have hr4:(z.set j {r with ps:=M,ls:=I})[j]?=Z {r with ps:=M,ls:=I} :=by rw[fq,bH Q,bH J]
  have X:=d.trans H;have x:WZ h h4 n0 B ys (z.set j {r with ps:=M,ls:=I}) N f aF _:=X.trans (by have:=c;exact this)
  have X:=c.g.get H.g.ok O (λe=>e.elim i v);have z:=x.g.get A hF (λe=>e.elim oF nF);have d:=x.no lF oF;simp;refine ahR x.g.ok x.k x.x (aw x.g.ax) hr4 F.snd.snd z d nF X b1 n b13 b14 ?_;intro F O i F;have O:=x.trans F;rw[wN] at O;have x:=i.at (t:=104) ayg;have c:=i.at (t:=102) aye;have X:bq (dp (dp (dp (dp l ((ys.take j).flatMap λy=>Ix y.g)) (r.ps.flatMap λq=>uL q.1)) (r.ls.flatMap λq=>Cw q.1)) (mh r.on)) r.on=bq L r.on:=vZ Q1 (λr hr=>tc _ _ hr);simp[x,wj];refine⟨Y ys-(j+1),J,j+1,U++[{r with ps:=M,ls:=I,on:=bq L r.on}],Q,u,av p,by simp[i.at (t:=1) b1],by simp[i.at (t:=2) b2],by simp[i.at (t:=3) n],by simp[c,ha,dq,u0],by simp[i.at (t:=103) ayf],ag,?_,?_⟩
  rw[<-X,<-set_drop p S,<-W,tk];exact O;rw[aW,Md,mw,gu,S,aW];simp only[zZ,List.map_nil,zz,Option.toList_some];congr 2;unfold zn YB.g;dsimp only;rw[Mq,Ml]
 .have:j=Y ys:=J
  subst this;rw[cG,ye,mI] at w;simp[aor,P];exact C _ _ U (av q1) (av q2) (av a) w (by rw[Md,nz ag])
end
def EB.bw(E:EB bs):Ord (Y bs) (dU bs)/\(dU bs)[0]?=Z 0:=by have o:=Gv E.ends E.n1;exact⟨⟨o.nd,o.lt⟩,o.zero⟩
def EB.rch(E:EB bs)(k:Nat):k∈dU bs↔Edge.N5 (cx bs) k:=by
 have o:Y (cx bs)=Y bs:=by simp[cx]
 have h:=Edge.ag2 (tss:=cx bs) (by rw[o];exact E.n1) (λw C t D=>aw (E.tok.to w C t D)) k;unfold dU;rw[List.mem_reverse,<-h,o];have:gT bs=Edge.N8 (cx bs):=by simp[gT,cx,Edge.N8]
 rw[this]
structure xV(aF:Nat)(bs:List GB):Prop where
 r:∀b∈bs,ve aF (Ix b)
 p:∀b∈bs,Y b.aP<=100000
 l:∀b∈bs,Y b.list<=100000
 a:∀b∈bs,∀x∈b.list,Y x.args<=100000
def adl{l:List (Int×(Bool×Int))}(h:v∈fZ l n):∃x∈l,x.2=v:=by
 unfold fZ at h;have⟨b,_,e⟩:=wv.1 h;unfold fw at e;cases o:l.find? λx=>x.1==(b:Int) with
 |none=>rw[o] at e;cases e
 |some x=>rw[o] at e;cases e;exact⟨x,lk o,Q⟩
def acp{f:Int->Int}{p:GP}(h:v∈(nM f N W p).row):v∈p.row:=by obtain⟨x,o,rfl⟩:=adl h;unfold fM at o;have⟨y,t,e⟩:=wv.1 o;split at e;cases e;exact(b8 (a:=y.1) (b:=y.2) t).2;cases e
def xV.kept{f:Nat}(R:xV f bs){a:List Nat}(o:Ord (Y bs) a):xV f (bu bs a):=by
 have D:∀b∈bu bs a,∃X∈bs,∃f N W,b=eM f N W X:=λb t=>by unfold bu at t;obtain⟨k,G,rfl⟩:=iT.1 t;have⟨X,w⟩:=aR bs k (o.lt k G);exact⟨X,cK w,_,_,_,by rw[w];rfl⟩
 refine⟨λb t=>?_,λb t=>?_,λb t=>?_,λb t=>?_⟩<;>obtain⟨X,w,f,N,W,rfl⟩:=D b t;intro r C;refine R.r X w r ?_;unfold Ix eM at C;rcases jL.1 C with h|h;refine ba _ ?_;have⟨f,H,C⟩:=a8.1 h;obtain⟨p,E,rfl⟩:=iT.1 H;refine a8.2 ⟨p,E,?_⟩;unfold uL at C⊢;rcases jL.1 C with h|h;exact ba _ h;refine aT _ ?_;have⟨v,I,f⟩:=a8.1 h;exact a8.2 ⟨v,acp I,f⟩;exact aT _ h;simpa [eM] using R.p X w;exact R.l X w;exact R.a X w
def Xg{a:Nat}(h:ve a (Ix b)):ve a (QD b):=λr o=>by unfold QD at o;rcases jL.1 o with h1|h1;obtain⟨p,t,rfl⟩:=iT.1 h1;exact h _ (ba _ (a8.2 ⟨p,t,by simp[uL]⟩));exact h _ (aT _ h1)
def Yh{a:List Nat}(h:b∈bu bs a){p:GP}(o:p∈b.aP):Y p.row<=Y a:=by unfold bu at h;obtain⟨k,_,rfl⟩:=iT.1 h;obtain⟨q,_,rfl⟩:=iT.1 o;exact HZ _ _
def pX(p:Nat)(bs:List GB):List Int:=dp (dp (j9 p) (bs.flatMap QD)) (bs.flatMap Ix)
def tM(p:Nat)(bs:List GB):Nat×List GB:=(Y (pX p (bu bs (dU bs))),(bu bs (dU bs)).map (zn (pX p (bu bs (dU bs)))))
def zH(name:ByteArray)(p:Int)(n0:Nat)(B:SV)(ys:List YB)(r:Nat×List GB)(h:aB)(v:aa)(V:aB):Prop:=
 ∃(a:SV) (b:List YB),v=eU ⟨aC name p r.1 a⟩/\cM h V n0 B ys a b/\b.map YB.g=r.2
def UM(l:cy h){name:ByteArray}{p n0 a:Nat}(O:n0<=h.ax)(W:FZ h n0 B ys)(xi:xk B ys)(E:EB (ys.map YB.g))(R:xV a (ys.map YB.g))(O:p<=a)(P:a<1000000):aY FF 135 [eU ⟨aC name p a B⟩] h (zH name p n0 B ys (tM p (ys.map YB.g)) h):=by
 have⟨f,g⟩:∃f,f=bu (ys.map YB.g) (dU (ys.map YB.g)):=⟨_,Q⟩;have⟨o,r⟩:=E.bw;have r:=E.n50;have r:=o.len;have r:=R.kept o;have axa:∀b∈f,∀p∈b.aP,Y p.row<=100000:=λb H p O=>aw (Yh (by rw[<-g];exact H) O)
 have j:Y f=Y (dU (ys.map YB.g)):=by rw[g];simp[bu]
 rw[<-g] at r;have j:∀c,h.ax<=c->¬cm B ys c:=λc F h1=>aw (W.j8 l h1)
 unfold tM;rw[<-g];refine aY.of Kq ?_;unfold Bx;have L:¬h.ax=h.ax+1:=J
 have M:¬h.ax+1=h.ax:=J
 simp[aC,L,M];refine ck.cut (λh1=>az aV h h1/\h1.tr.get h.ax=Z (.ch (aC name p a B) b9 0 0)/\(c_ h1 (h.ax+1) [eT ⟨⟨[]⟩⟩,dC ef 0,dC ef 0,c6 K 0 0])) ?_ ?_;exact⟨(((az.refl l).new _ _).new _ _).tick,by simp[aC,L],⟨0,ag⟩⟩;rintro h1⟨d,T,⟨sR,k⟩⟩;have A:=d.ok.wf _ _ T;have A:=d.ok.wf _ _ k;refine ck.call (V:=λv V=>az aV h1 V/\∃A:SV,v=A.v/\bx encI h1.ax V A.v (wg (ys.map YB.g)).reverse) (by simpa [aC] using EX d.ok (name:=name) (p:=p) (r:=a) (W.cr l d).view E.ends E.n1) ?_;rintro _ n⟨i,A,rfl,A⟩;rw[Rw] at A;have X:=d.trans i;have u:=i.get d.ok T;have T:=i.get d.ok k;have d:=W.cr l X;have k:=i.ax;simp[u];refine ck.call (V:=aeA name p a n0 B ys f n) (by rw[g];simpa [aC] using Ly i.ok (name:=name) (p:=p) (r:=a) d J E (ak o) A.sl (λ_ b H h=>by have:=A.of H;have:=W.j8 l h;omega)) ?_;rintro _ w⟨d,g,rfl,t,A⟩;have k:=t.g.get i.ok u (j _ J);have xG:=t.g.get i.ok T (j _ J);simp[aC] at k;have i:=t.g.ax;have i:¬h.ax=w.ax:=J
 have u:=t.g.ok.wf _ _ k;have u:=t.g.ok.bU k;have D:∀c,h.ax<=c->c<n.ax->¬cm d g c:=λc h1 n w=>(t.s c w).elim (j c h1) J;simp[aC,k,i];refine bm.cut (λj=>az (· =h.ax) w j/\(c_ j h.ax (aC name p a d))/\c_ j w.ax [dC ef (-1)]) ?_ ?_
 have u:=(az.refl t.g.ok).put (S:=(· =h.ax)) (off:=0) (vs:=[eK name,aL ef p,aL ef a,bo d.a d.l d.c]) ⟨_,k⟩ (ft Q);exact⟨u.new _ _,⟨w.clock,by simp[aC,i]⟩,⟨0,ag⟩⟩;rintro j⟨u,⟨i,z⟩,⟨i,k⟩⟩;refine bm.call (V:=λv V=>az aV j V/\∃i s,v=c6 (Z ⟨i,0,K⟩) a a/\j.ax<=i/\V.tr.get i=Z (.ch (encI.flat (an a (-1:Int))) b9 0 s)) (ak (Mu u.ok a P (x:= -1) k)) ?_;rintro _ j⟨k,i,sd,rfl,T,T⟩;have N:=k.get u.ok z;have z:=N;simp[aC] at z;have U:=u.ax;have U:=k.ax;have U:=k.ok.wf _ _ T;have U:¬h.ax=j.ax:=J
 simp[z,U];refine aN.cut (λz=>az aV j z/\c_ z j.ax [c6 (Z ⟨i,0,K⟩) a a,dC ef 0]) ?_ ?_;exact⟨(az.refl k.ok).new _ _,0,ag⟩;rintro z⟨G,sN,U⟩;have S:=G.get k.ok T;have T:=G.get k.ok N;have N:=G.ax;have N:=G.ok.wf _ _ U;have N:az (· =h.ax) w z:=u.trans (k.trans G).cr;have k:cM h z n0 B ys d g:=(((cM.refl W l).cr X).trans t).go N (λc e=>⟨J,by rw[e];exact D _ J J⟩);have X:=N.get t.g.ok xG J;have x6:=k.x xi;have N:∀c,w.ax<=c->¬cm d g c:=λc F h=>aw (t.w.j8 t.g.ok h)
 have u:an a (-1:Int)=(aA a).map λl:Nat=>aO [] l:=by refine Bc λm=>?_;rw[TV,gu];rcases Bb m a with h|h;rw[bH h,lN h];rfl;rw[bM J,xE (ak h)];rfl
 rw[u] at S;have k6:NZ z n0 d g j.ax i a []:=⟨k.w,⟨⟨sN,U⟩,⟨sd,S⟩,J,aar,λx z=>by simp at z⟩,N _ J,N _ J,P⟩;have z:¬Co j.ax i h.ax:=λe=>by rcases e with e|e<;>omega
 have nR:¬Co j.ax i (h.ax+1):=λe=>by rcases e with e|e<;>omega
 have u:∀c,Co j.ax i c->h.ax<=c/\¬cm d g c:=λc e=>by
  have:w.ax<=c:=by rcases e with e|e<;>omega
  exact⟨J,N c this⟩
 have i:∀j:GB->List Int,(g.flatMap λy=>j y.g)=f.flatMap j:=λj=>by rw[<-A,rO]
 have S:∀y∈g,y.g∈f:=λy j=>by rw[<-A];exact QP j
 have I2:ve a (f.flatMap Ix):=λl N=>by have⟨b,H,h⟩:=a8.1 N;exact r.r b H l h
 have P:ve a (f.flatMap QD):=λl N=>by have⟨b,H,h⟩:=a8.1 N;exact Xg (r.r b H) l h
 have sz:∀y∈g,SzZ y:=λy j=>by have a:=S y j;refine⟨by simpa [YB.g] using r.p _ a,by simpa [YB.g] using r.l _ a,λq j=>?_,λq j=>?_⟩;exact axa _ a q.1 (by show q.1∈y.ps.map (·.1);exact QP j);exact r.a _ a q.1 (by show q.1∈y.ls.map (·.1);exact QP j)
 have j:Y g=Y f:=by rw[<-A];simp
 have j:Y g<50:=J
 have l:=t.w.A.len;refine YE (v1:=dB (Z ⟨h.ax,0,K⟩)) (v2:=dB (Z ⟨h.ax+1,0,K⟩)) G.ok k6 (p:=p) O ag ag ag ag ag ?_;intro O O a U N I S;have r:=I.get G.ok T z;have O:=r;simp[aC] at O;simp[a,O];refine YD (v1:=dB (Z ⟨h.ax,0,K⟩)) (v2:=dB (Z ⟨h.ax+1,0,K⟩)) I.ok S j sz (by rw[i];exact P) (av a) (av U) (av N) ag (av l) ag ?_;intro N T N r2 U a P;rw[i] at P;have O:=a.get I.ok r z;have r:=O;simp[aC] at r;simp[N,r];have r:=I.ax;have r:=a.ax;have S:cM h T n0 B ys d g:=(k.go I u).go a u;have r:¬cm d g h.ax:=D _ J J;refine UO (L:=pX p f) (v2:=dB (Z ⟨h.ax+1,0,K⟩)) a.ok P x6 J (by rw[i];exact List.prefix_refl _) (by rw[i];exact I2) j sz O r z (av N) (av r2) (av U) ag (av l) ag ?_;intro l l k U P j C N;rw[i] at C;have i:cM h l n0 B ys d k:=S.step C.g (λc F=>F.imp id λe=>(u c e).1) ⟨C.k.W,C.s,λ_=>C.x⟩;have u:=C.g.get a.ok O (λe=>e.elim r z);have z:¬cm d g (h.ax+1):=D _ J J;have g:=C.g.get a.ok (a.get I.ok (I.get G.ok X nR) nR) (λe=>e.elim z nR);obtain⟨z,z⟩:=C.k.w.hN;have a:=u;simp[aC] at a;have u:dp (dp (j9 p) (f.flatMap QD)) (f.flatMap Ix)=pX p f:=Q;rw[u] at z;simp[U,P,j,a,z,g,L,M];have L:=((az.refl C.g.ok).put (S:=λx=>x=h.ax\/x=h.ax+1) (off:=2) (vs:=[aL ef (pX p f).length]) ⟨_,a⟩ (ft (fc Q))).put (b:=h.ax+1) (off:=0) (cs:=[eK ⟨⟨[]⟩⟩,aL ef 0,aL ef 0,bo K 0 0]) (o:=0) (vs:=[eK name,aL ef p,aL ef (pX p f).length,bo d.a d.l d.c]) ⟨sR,by simp[g,M]⟩ (ft (ft Q));generalize put (put l _ _ _ _ _) _ _ _ _ _=KS at L⊢;have l:∀c,h.ax<=c->c<n.ax->¬cm d k c:=λc h1 n w=>(C.s c w).elim (D c h1 n) J;refine⟨d,k,by simp[aC],i.go L (λc e=>⟨J,by rcases e with e|e<;>(rw[e];exact l _ J J)⟩),by rw[N,A]⟩
def Dq(l:List Int)(p:List GP):List Int:=p.foldl (λl p=>gz l p.row) l
def acC{l:List Int}{a:List GP}{p:GP}(h:a[j]?=Z p):Dq l (a.take (j+1))=gz (Dq l (a.take j)) p.row:=by unfold Dq;rw[mw,h,lv];rfl
def AB(l:List Int)(bs:List GB):List Int:=bs.foldl (λl b=>Dq l b.aP) l
def Yx{l:List Int}(h:bs[j]?=Z b):AB l (bs.take (j+1))=Dq (AB l (bs.take j)) b.aP:=by unfold AB;rw[mw,h,lv];rfl
section
variable{h0 h1:aB}{n0 S i:Nat}{name:ByteArray}{p r:Int}{B:SV}{ys:List YB}{y:YB}
def axb(h1:aB)(S i:Nat)(l0:List Int)(y:YB)(m:Nat)(a:Env)(V:aB):Prop:=
 ∃(j:Nat) (L:SV),m=Y y.ps-j/\j<=Y y.ps/\cg a 1 S/\bz a 9 i/\bX a 3=L.v/\bz a 10 j/\az aV h1 V/\bx encI h1.ax V L.v (Dq l0 (y.g.aP.take j))
def acD(f:cy h1)(I:az aV h1 G)(W:FZ h1 n0 B ys)(H:ys[i]?=Z y)(u:bx encI h1.ax G L0.v l0)(a:∀j,Y (Dq l0 (y.g.aP.take j))<50000)(h:∀q∈y.ps,Y q.1.row<50000)(A:Y y.ps<100000)(v:dR h1 S (aC name p r B) E)(X:Y ys<100000)(l:cg e 1 S)(k:bX e 3=L0.v)(X:bz e 9 i)(b:bz e 10 0)(C:∀w V (L:SV),cg w 1 S->bX w 3=L.v->bz w 9 i->az aV h1 V->bx encI h1.ax V L.v (Dq l0 y.g.aP)->T (.exit 10) w V):aN FF (.loop mV) e G T:=by
 have N:=W.A.len;have M:=(cR.mp H).1;refine aN.loop (axb h1 S i l0 y) ?_ (n:=Y y.ps) ⟨0,L0,Q,J,l,X,k,b,I,by simpa [Dq] using u⟩;rintro m w V⟨j,L,rfl,x,l,s,U,d,g,D⟩;have z:=g.ok;have x:=W.cr f g;have P:=x.at H;have o:=g.get f v;obtain⟨F,X,v,F,k,b,F,_,O,_⟩:=x.A.el H;have v:=O 0 1 ai;simp[-ay] at v;have X:=P.P.len;simp[aC] at o;rw[k,N] at o;unfold mV;by_cases F:j<Y y.ps
 .have A:=bZ ((j:Int)+1) J J;have⟨q,t⟩:=aR y.ps j F;have O:y.g.aP[j]?=Z q.1:=by simp[YB.g,t]
  have N:=acC (l:=l0) O;have O:=P.ps q (cK t);obtain⟨x,b,u,x,b,n,k,_,u,_⟩:=P.P.el t;have n:=u 1 1 ai;simp[-ay] at n;rw[b,X] at v;have x:=a j;have a:=h q (cK t);have b:=g.ax;simp[l,U,s,d,o,aD o,M,v,F,n,X,-ay];refine bm.call (V:=W0 h1.ax L (gz (Dq l0 (y.g.aP.take j)) q.1.row) V) (by simpa [U] using Ag (V:=q.2) z J D O.sl (λc b e=>by have:=D.of e;have:=(W.at H).lt f (l:=.R j) (c:=c) (by rw[YB.jM t];exact dV b);omega) J) ?_;rintro _ k⟨u,z,rfl,k,f⟩;simp[d,A];exact⟨Y y.ps-(j+1),J,j+1,z,Q,F,av l,av s,ag,ag,g.trans' u aj (λc b e=>aw (D.of e)),by rw[N];exact k⟩
 .have:j=Y y.ps:=J
  subst this;rw[nz (by simp[YB.g])] at D;simp[l,s,d,o,aD o,M,v,X,-ay];exact C _ _ L (av l) (av U) (av s) g D
def axc(h1:aB)(S:Nat)(l0:List Int)(ys:List YB)(m:Nat)(a:Env)(V:aB):Prop:=
 ∃(j:Nat) (L:SV),m=Y ys-j/\j<=Y ys/\cg a 1 S/\bX a 3=L.v/\bz a 9 j/\az aV h1 V/\bx encI h1.ax V L.v (AB l0 ((ys.map YB.g).take j))
def UK(n:cy h1)(I:az aV h1 G)(W:FZ h1 n0 B ys)(H:bx encI h1.ax G L0.v l0)(x:∀i b j,(ys.map YB.g)[i]?=Z b->Y (Dq (AB l0 ((ys.map YB.g).take i)) (b.aP.take j))<50000)(z:∀y∈ys,∀q∈y.ps,Y q.1.row<50000)(v:∀y∈ys,Y y.ps<100000)(h:dR h1 S (aC name p r B) E)(u:Y ys<100000)(d:cg e 1 S)(s:bX e 3=L0.v)(c:bz e 9 0)(C:∀a V (L:SV),bX a 3=L.v->az aV h1 V->bx encI h1.ax V L.v (AB l0 (ys.map YB.g))->T (.exit 8) a V):aN FF (.loop mW) e G T:=by
 have f:=W.A.len;refine aN.loop (axc h1 S l0 ys) ?_ (n:=Y ys) ⟨0,L0,Q,J,d,s,c,I,by simpa [AB] using H⟩;rintro m a V⟨j,L,rfl,a,D,d,t,g,a⟩;have o:=g.get n h;simp[aC] at o;rw[f] at o;unfold mW;by_cases w:j<Y ys
 .have s:=bZ ((j:Int)+1) J J;have⟨y,c⟩:=aR ys j w;have f:(ys.map YB.g)[j]?=Z y.g:=by rw[gu,c];rfl
  have l:=cK c;simp[D,t,o,aD o,w,-ay];refine acD n g W c a (λk=>x j _ k f) (z y l) (v y l) h u (av D) (av d) (av t) ag ?_;intro h h x v h z u l;simp[z,s];exact⟨Y ys-(j+1),J,j+1,x,Q,w,av v,av h,ag,u,by rw[Yx f];exact l⟩
 .have:j=Y ys:=J
  subst this;rw[nz ag] at a;simp[D,t,o,aD o,-ay];exact C _ _ L (av d) g a
end
def Gp(p:Nat)(bs:List GB):List Int:=AB (ta (j9 p) bs) bs
def ade(D:cy h){name:ByteArray}{p n0:Nat}{r:Int}(W:FZ h n0 B ys)(d:p<1000)(e:Y ys<=100)(a:∀b∈ys.map YB.g,Y b.aP<=300)(c:∀b∈ys.map YB.g,Y b.list<=300)(f:∀b∈ys.map YB.g,∀x∈b.list,Y x.args<=100)(g:∀b∈ys.map YB.g,∀q∈b.aP,Y q.row<50000)(k:∀j,Y (ta (j9 p) ((ys.map YB.g).take j))<50000)(l:∀i b j,(ys.map YB.g)[i]?=Z b->Y (Dq (AB (ta (j9 p) (ys.map YB.g)) ((ys.map YB.g).take i)) (b.aP.take j))<50000):aY FF 95 [eU ⟨aC name p r B⟩] h (λv V=>az aV h V/\∃L:SV,v=L.v/\bx encI h.ax V L.v (Gp p (ys.map YB.g))):=by
 refine aY.of FM ?_;unfold xu;simp[aC];refine aN.cut (λh1=>az aV h h1/\c_ h1 h.ax (aC name p r B)) ⟨(az.refl D).new _ _,0,by simp[aC]⟩ ?_;rintro h1⟨o,E,w⟩;have C:=W.cr D o;refine agv o.ok d w ag (by simp[cU]) ag ?_;intro d d d p G r d;simp;refine Yy o.ok (.refl o.ok) r C.view d (ak e) a c f k w (av p) (av G) ag ?_;intro p p p I H f p;simp;refine UK o.ok f C p l (λy t q p=>g _ (QP t) q.1 (QP p)) (λy t=>by have:=a _ (QP t);simp[YB.g] at this;omega) w J (av I) (av H) ag ?_;intro a a g f a p;simp[f];exact⟨o.trans a,g,ag,bx.low p o.ax⟩
def Bm.ext{f o:Lo->Option Nat}{a b:Nat}{G D:Lo}(w:Bm False f)(d:∀l c,f l=Z c->c<a)(h:∀l c,o l=Z c->f l=Z c\/(l=G/\a<=c/\c<b)\/(l=D/\a<=c/\b<=c)):Bm False o:=λx y c p C=>by rcases h x c p with p|⟨p,t,E⟩|⟨p,t,E⟩<;>rcases h y c C with q|⟨q,H,I⟩|⟨q,H,I⟩;exact w x y c p q;have:=d x c p;omega;have:=d x c p;omega;have:=d y c q;omega;exact fc (p.trans q.symm);omega;have:=d y c q;omega;omega;exact fc (p.trans q.symm)
structure BF(h:aB)(n0 X:Nat)(y:YB):Prop where
 hX:c_ h X (eH.enc y)
 P:bx iE n0 h y.P.v y.ps
 L:bx kh n0 h y.L.v y.ls
 T:eo encI h y.T y.to
 ps:∀q∈y.ps,eo cH h q.2 q.1.row
 ls:∀x∈y.ls,eo cH h x.2 x.1.args
 inj:Bm False y.loc
 new:∀l c,y.loc l=Z c->n0<=c/\c<h.ax/\c≠X
section
variable{h V:aB}{n0 X:Nat}{y:YB}
def BF.z(w:BF h n0 X y):BZ h y:=⟨du w.P,du w.L,w.T,w.ps,w.ls⟩
def BF.go{S:Nat->Prop}(w:BF h n0 X y)(t:cy h)(g:az S h V)(C:∀c,S c->c≠X/\∀l,y.loc l≠Z c):BF V n0 X y:=by have⟨s,D⟩:=w.hX;have z:=w.z.go t g λc l o=>(C c o).2 l;have E:=g.ax;exact⟨⟨s,g.get t D λe=>(C _ e).1 Q⟩,w.P.grow t g λc o e=>(C c e).2 .P (dV o),w.L.grow t g λc o e=>(C c e).2 .L (dV o),z.T,z.ps,z.ls,w.inj,λl c e=>⟨(w.new l c e).1,aw ((w.new l c e).2.1),(w.new l c e).2.2⟩⟩
def BF.cr(w:BF h n0 X y)(o:cy h)(g:az aV h V):BF V n0 X y:=w.go o g (λ_ h=>h.elim)
def BF.SB(w:BF h n0 X y)(G:cy h){D A:SV}{p:GP}(b:n0<=h.ax)(g:az (λc=>c=X\/fy y.P=Z c) h V)(r:c_ V X (eH.enc {y with P:=D,ps:=y.ps++[(p,A)]}))(E:bx iE n0 V D.v (y.ps++[(p,A)]))(f:eo cH V A p.row)(F:∀c,fy A=Z c->h.ax<=c/\c<m)(W:∀c,fy D=Z c->h.ax<=c/\m<=c)(u:X<h.ax):BF V n0 X {y with P:=D,ps:=y.ps++[(p,A)]} :=by
 have M:=g.ax;have no:∀c l,l≠ .P->(c=X\/fy y.P=Z c)->y.loc l≠Z c:=λc l b o e=>o.elim (w.new l c e).2.2 λh=>(w.inj l .P c e h).elim b λh=>h.1;have M:=w.z;have i:∀q∈y.ps,eo cH V q.2 q.1.row:=λq t=>by have⟨k,H⟩:=iF t;exact(M.ps q t).go G g λc o=>by rw[<-YB.jM H];exact no c (.R k) nofun o
 have z:∀l c,({y with P:=D,ps:=y.ps++[(p,A)]} :YB).loc l=Z c->y.loc l=Z c\/(l=.R (Y y.ps)/\h.ax<=c/\c<m)\/(l=.P/\h.ax<=c/\m<=c):=λl c e=>by
  cases l with
  |P=>exact ft (ft ⟨Q,W c e⟩)
  |R j=>
   have⟨q,h1,I⟩:=OO.1 e;by_cases S:j<Y y.ps;rw[Jf S] at h1;exact fc (OO.2 ⟨q,h1,I⟩)
   .rw[Hv J] at h1;have:j-Y y.ps=0:=by have:=(cR.mp h1).1;simp at this;omega
    rw[this] at h1;cases h1;exact ft (fc ⟨by rw[show j=Y y.ps by omega],F c I⟩)
  |_=>exact fc e
 refine⟨r,E,w.L.grow G g λc o e=>no c .L nofun e (dV o),w.T.go G g λc o=>no c .T nofun o,λq t=>?_,λx T=>?_,w.inj.ext (λl c e=>(w.new l c e).2.1) z,λl c e=>?_⟩;rcases jL.1 t with t|t;exact i q t;cases br.1 t;exact f
 .have⟨k,H⟩:=iF T;exact(M.ls x T).go G g λc o=>by rw[<-YB.pW H];exact no c (.X k) nofun o
 .have u:c<V.ax:=by rcases z l c e with C|⟨rfl,_⟩|⟨rfl,_⟩;have:=(w.new l c C).2.1;omega;rw[YB.jM (q:=(p,A)) ag] at e;exact f.lt g.ok e;exact(du E).lt g.ok e
  rcases z l c e with C|⟨_,C,_⟩|⟨_,C,_⟩;have:=w.new l c C;exact⟨this.1,u,this.2.2⟩;exact⟨J,u,J⟩;exact⟨J,u,J⟩
def BF.ins(w:BF h n0 X y)(E:cy h){p A:SV}(b:n0<=h.ax)(g:az (λc=>c=X\/fy y.L=Z c) h V)(S:c_ V X (eH.enc {y with L:=p,ls:=y.ls++[(x,A)]}))(D:bx kh n0 V p.v (y.ls++[(x,A)]))(I:eo cH V A x.args)(W:∀c,fy A=Z c->h.ax<=c/\c<m)(b:∀c,fy p=Z c->h.ax<=c/\m<=c)(r:X<h.ax):BF V n0 X {y with L:=p,ls:=y.ls++[(x,A)]} :=by
 have r:=g.ax;have no:∀c l,l≠ .L->(c=X\/fy y.L=Z c)->y.loc l≠Z c:=λc l z t e=>t.elim (w.new l c e).2.2 λh=>(w.inj l .L c e h).elim z λh=>h.1;have M:=w.z;have z:∀l c,({y with L:=p,ls:=y.ls++[(x,A)]} :YB).loc l=Z c->y.loc l=Z c\/(l=.X (Y y.ls)/\h.ax<=c/\c<m)\/(l=.L/\h.ax<=c/\m<=c):=λl c e=>by
  cases l with
  |L=>exact ft (ft ⟨Q,b c e⟩)
  |X j=>
   have⟨q,h1,H⟩:=OO.1 e;by_cases f:j<Y y.ls;rw[Jf f] at h1;exact fc (OO.2 ⟨q,h1,H⟩)
   .rw[Hv J] at h1;have:j-Y y.ls=0:=by have:=(cR.mp h1).1;simp at this;omega
    rw[this] at h1;cases h1;exact ft (fc ⟨by rw[show j=Y y.ls by omega],W c H⟩)
  |_=>exact fc e
 refine⟨S,w.P.grow E g λc t e=>no c .P nofun e (dV t),D,w.T.go E g λc t=>no c .T nofun t,λq o=>?_,λq o=>?_,w.inj.ext (λl c e=>(w.new l c e).2.1) z,λl c e=>?_⟩
 .have⟨k,G⟩:=iF o;exact(M.ps q o).go E g λc t=>by rw[<-YB.jM G];exact no c (.R k) nofun t
 .rcases jL.1 o with o|o
  .have⟨k,G⟩:=iF o;exact(M.ls q o).go E g λc t=>by rw[<-YB.pW G];exact no c (.X k) nofun t
  cases br.1 o;exact I
 .have u:c<V.ax:=by rcases z l c e with C|⟨rfl,_⟩|⟨rfl,_⟩;have:=(w.new l c C).2.1;omega;rw[YB.pW (q:=(x,A)) ag] at e;exact I.lt g.ok e;exact(du D).lt g.ok e
  rcases z l c e with C|⟨_,C,_⟩|⟨_,C,_⟩;have:=w.new l c C;exact⟨this.1,u,this.2.2⟩;exact⟨J,u,J⟩;exact⟨J,u,J⟩
end
def ae.mem{R:List aa->H->Prop}{sz:Nat}{L:SV}{xs:List H}(s:ae R sz h L.v xs){x:H}(G:xs[i]?=Z x):∃b c w t o d,L.a=Z ⟨b,c,K⟩/\h.tr.get b=Z (.ch w t o d):=by have⟨a,D,e,s⟩:=s;simp at e;rcases s with⟨rfl,_⟩|⟨b,c,w,t,o,d,C,E,_⟩;simp at G;exact⟨b,c,w,t,o,d,by rw[e.1,C],E⟩
structure Nr(h0:aB)(P0 L0 T0:SV)(b:GB):Prop where
 sP:ae (pR h0) 2 h0 P0.v b.aP
 sL:ae (iR h0) 8 h0 L0.v b.list
 sT:ae nR 1 h0 T0.v b.to
 lp:Y b.aP<100000
 ll:Y b.list<100000
 lr:∀p∈b.aP,Y p.row<100000
 la:∀x∈b.list,Y x.args<100000
 lt:Y b.to<100000
def dj(P0 L0 T0:SV)(b:GB):List aa:=[P0.v,L0.v,dC ef b.kind,dd b.on.1,dC ef b.on.2,T0.v]
def vb.fy{H:Type}{E:ly H}{n0:Nat}{h:aB}(w:cy h){L:SV}{xs:List H}(a:vb E n0 h L.v xs){c:Nat}(e:Go.Proofs.YtdhnndleffachaaGreatDoor.fy L=Z c):n0<=c/\c<h.ax:=by have A:=Fp a;refine⟨?_,A.lt w e⟩;rcases A.2 with⟨t,_⟩|⟨b,o,s,C,t,_⟩;simp[Go.Proofs.YtdhnndleffachaaGreatDoor.fy,t] at e;rw[cj t] at e;cases e;exact a.of (fK t)
def jt{E:ly H}{L:SV}{xs:List H}(A:eo E h L xs)(e:fy L=Z c):bD L.v c:=by rcases A.2 with⟨t,_⟩|⟨b,o,s,w,t,_⟩;simp[fy,t] at e;rw[cj t] at e;cases e;exact fK t
def awA(h1:aB)(n0 S X:Nat)(y0:YB)(b:GB)(m:Nat)(e:Env)(V:aB):Prop:=
 ∃(j:Nat) (P:SV) (o:List (GP×SV)),m=Y b.aP-j/\j<=Y b.aP/\cg e 1 S/\cg e 2 (S+1)/\cg e 3 X/\bz e 4 j/\az (· =X) h1 V/\(∀c,bD P.v c->h1.ax<=c)/\BF V n0 X {y0 with P:=P,ps:=o} /\o.map (·.1)=b.aP.take j
def SX(P:cy h0)(O:az aV h0 h1)(h:Nr h0 P0 L0 T0 b){n0 S X E:Nat}(a:n0<=h1.ax)(r:dR h1 S (dj P0 L0 T0 b) E)(u:S≠X)(n:h0.ax<=X)(w:BF h1 n0 X y0)(s:y0.P=cU)(p:y0.ps=[])(u:cg e 1 S)(z:cg e 2 (S+1))(n:cg e 3 X)(F:bz e 4 0)(C:∀k V L o,cg k 1 S->cg k 2 (S+1)->cg k 3 X->az (· =X) h1 V->BF V n0 X {y0 with P:=L,ps:=o} ->o.map (·.1)=b.aP->T (.exit 0) k V):aN FF (.loop ku) e h1 T:=by
 have d:=ae.len h.sP;have v:=h.lp;refine aN.loop (awA h1 n0 S X y0 b) ?_ (n:=Y b.aP) ⟨0,cU,[],Q,J,u,z,n,F,.refl O.ok,λc H=>(FG Q H).elim,by rw[<-s,<-p];exact w,Q⟩;rintro m k V⟨j,L,o,rfl,v,q,M,l,n,k,hPn,W,i⟩;have t:=k.ok;have N:az aV h0 V:=O.trans' k aj (λx s e=>J);have⟨g,z⟩:=W.hX;have u:=k.get O.ok r J;have I:=u;simp[dj] at I;rw[d] at I;have a:=z;simp at a;have z:Y o=j:=by have:=congrArg dk i;simp at this;omega
 unfold ku;by_cases y:j<Y b.aP;have wj:=bZ ((j:Int)+1) J J;have⟨p,u⟩:=aR b.aP j y;have F:=cK u;obtain⟨v,uV,s,d,_,_,⟨A,rfl,v⟩,U,f⟩:=ae.later P h.sP u;have B:=f V N 0 1 ai;have r:=f V N 1 1 ai;simp[-ay] at B r;rw[d] at I;have z:=t.bU I;have f:=t.bU a;have O:=N.bU U;have U:=t.st _ _ _ _ _ I;have Sh:=t.st _ _ _ _ _ a;simp[q,l,n,I,a,aD I,aD a,y,B,r,z,f,O,aK,bh,-ay];obtain⟨z,f,O,z,r,z,O,f⟩:=ae.mem h.sP u;rw[d] at O;simp at O;obtain⟨rfl,rfl⟩:=O;have s:=N.get P f;have z:=t.st _ _ _ _ _ s;have B:=(MT v).cr P N;have G:=bk t;have r:=G.get t I;have P:=G.get t a;have f:=G.get t s;have O:=B.cr t G;have B:(tick V).ax=V.ax:=Q;rw[<-B];generalize B:tick V=h2 at*;have⟨v,s,B,N,D⟩:=Hi (bytes:=16) G.ok (E:=cH) (z:=[dd b9,dC ef 0]) rfl O (aw (h.lr p F)) ai;have d:=D.get G.ok r;have F:=D.get G.ok P;have r:=D.get G.ok f;refine kW (ak B) ?_;simp[d,F,r,U,Sh,z];have h:=aZ D.ok (iE.enc (p,v)) 0;have f:=h.get D.ok F;have d:bj iE (aM s (iE.enc (p,v)) 0) (c6 (Z ⟨s.ax,0,K⟩) 1 1) [(p,v)]:=dx (bY _ _ _);have F:(aM s (iE.enc (p,v)) 0).ax=s.ax+1:=Q;have P:=k.ax;have U:=D.ax;have r:=((W.cr t G).cr G.ok D).cr D.ok h;obtain⟨z,O,F,P,z,B⟩:=fI (bytes:=32) h.ok (z:=[dC ef 0,c6 K 0 0]) rfl r.P d (by simp;omega) ai J;obtain⟨d,rfl⟩:=bx.Fj P;refine kW (ak F) ?_;have F:=z.get h.ok f (λe=>(W.new .P X (dV e)).2.2 Q);simp[F,l,n,wj];have r:=aX (off:=0) (vs:=[d.v]) z.ok F;simp at r;have f:=t.wf _ _ a;have U:=z.ax;have a:az (λc=>c=X\/fy L=Z c) V _:=(((G.trans D).trans h).cr.trans (z.cX (λc _ e=>ft (dV (A:=L) e)))).trans (r.cX λc _ e=>fc (e:c=X));have F:bx iE n0 (put O X 0 _ [d.v] 0) d.v (o++[(p,v)]):=P.grow z.ok r (λc H e=>aw (B c H));have U:=(((Fp N).cr D.ok h).go h.ok z (λc H e=>by have:=(vb.fy D.ok N e).1;have:=(du W.P).lt t (dV (A:=L) H);omega)).go z.ok r (λc H e=>aw ((vb.fy D.ok N e).1));refine⟨Y b.aP-(j+1),J,j+1,d,o++[(p,v)],Q,y,av q,av M,av l,ag,(((k.trans G.cr).trans D.cr).trans h.cr).trans' z aj (λc H e=>aw (hPn c e)) |>.trans r,λc H=>aw (B c H),?_,by rw[aW,i,mw,u];rfl⟩;exact W.SB t (m:=s.ax) J a ⟨O.clock,by rw[bc];rfl⟩ F U (λc e=>aw (vb.fy D.ok N e)) (λc e=>aw (B c (jt (du P) e))) f
 .have:j=Y b.aP:=J
  subst this;rw[mI] at i;simp[q,n,I];exact C _ _ L o (av q) (av M) (av l) k W i
def awz(h1:aB)(n0 S X:Nat)(y0:YB)(b:GB)(m:Nat)(e:Env)(V:aB):Prop:=
 ∃(j:Nat) (L:SV) (o:List (GI×SV)),m=Y b.list-j/\j<=Y b.list/\cg e 1 S/\cg e 2 (S+1)/\cg e 3 X/\bz e 5 j/\az (· =X) h1 V/\(∀c,bD L.v c->h1.ax<=c)/\BF V n0 X {y0 with L:=L,ls:=o} /\o.map (·.1)=b.list.take j
def SU(f:cy h0)(p:az aV h0 h1)(P:Nr h0 P0 L0 T0 b){n0 S X E:Nat}(n:n0<=h1.ax)(y:dR h1 S (dj P0 L0 T0 b) E)(i:S≠X)(B:h0.ax<=X)(w:BF h1 n0 X y0)(L:y0.L=cU)(s:y0.ls=[])(U:cg e 1 S)(u:cg e 2 (S+1))(M:cg e 3 X)(z:bz e 5 0)(C:∀r V F o,cg r 2 (S+1)->cg r 3 X->az (· =X) h1 V->BF V n0 X {y0 with L:=F,ls:=o} ->o.map (·.1)=b.list->T (.exit 2) r V):aN FF (.loop kt) e h1 T:=by
 have l:=ae.len P.sL;have N:=P.ll;have n:=p.ok;refine aN.loop (awz h1 n0 S X y0 b) ?_ (n:=Y b.list) ⟨0,cU,[],Q,J,U,u,M,z,.refl n,λc t=>(FG Q t).elim,by rw[<-L,<-s];exact w,Q⟩;rintro m r V⟨j,F,o,rfl,L,d,B,a,v,r,hLn,q,k⟩;have L:=r.ok;have N:az aV h0 V:=p.trans' r aj (λx z e=>J);have⟨g,O⟩:=q.hX;have s:=r.get n y i;simp[dj] at s;rw[l] at s;have y:=O;simp at y;have n:Y o=j:=by have:=congrArg dk k;simp at this;omega
 unfold kt;by_cases p:j<Y b.list
 .have wj:=bZ ((j:Int)+1) J J;have⟨x,z⟩:=aR b.list j p;have M:=cK z;obtain⟨n,i,O,n,_,_,⟨A,rfl,O⟩,l,i⟩:=ae.later f P.sL z;have u:=i V N 0 8 ai;simp[-ay,aQ] at u;rw[n] at s;have n:=(MT O).cr f N;have lX:=L.wf _ _ y;have l:¬X=V.ax:=J
  simp[d,a,v,s,y,aD s,aD y,p,u,bh,aJ,cw,bg,l,-ay];have I:az aV V (put (aM V [dC ef 0,dC ef 0,dd b9,dC ef 0,dd b9,dC ef 0,dC ef 0,c6 K 0 0] 0) V.ax 0 [dC ef 0,dC ef 0,dd b9,dC ef 0,dd b9,dC ef 0,dC ef 0,c6 K 0 0] (kh.enc (x,A)) 0):=(az.refl L).var _ _;have u:(put (aM V [dC ef 0,dC ef 0,dd b9,dC ef 0,dd b9,dC ef 0,dC ef 0,c6 K 0 0] 0) V.ax 0 [dC ef 0,dC ef 0,dd b9,dC ef 0,dd b9,dC ef 0,dC ef 0,c6 K 0 0] (kh.enc (x,A)) 0).tr.get V.ax=Z (.ch (kh.enc (x,A)) b9 0 V.clock):=by rw[bc];rfl
  have U:(put (aM V [dC ef 0,dC ef 0,dd b9,dC ef 0,dd b9,dC ef 0,dC ef 0,c6 K 0 0] 0) V.ax 0 [dC ef 0,dC ef 0,dd b9,dC ef 0,dd b9,dC ef 0,dC ef 0,c6 K 0 0] (kh.enc (x,A)) 0).ax=V.ax+1:=Q;simp only[KD,SV.AK] at I u U;rw[<-U];generalize put (aM V _ 0) V.ax 0 _ _ 0=h2 at*;have i:=n.cr L I;have⟨D,W,O,n,f⟩:=Hi (bytes:=16) I.ok (E:=cH) (z:=[dd b9,dC ef 0]) rfl i (aw (P.la x M)) ai;refine df (ak O) ?_;have N:=f.get I.ok u;have u:=f.get I.ok (I.get L y (λh=>h));have i:=aX (off:=7) (vs:=[D.v]) f.ok N;have P:=I.ax;have M:=f.ax;have O:X≠V.ax:=J
  have M:=i.get f.ok u O;have O:(put W V.ax 7 (kh.enc (x,A)) [D.v] 0).tr.get V.ax=Z (.ch (kh.enc (x,D)) b9 0 W.clock):=by rw[bc];rfl
  simp only[KD,SV.AK] at i M O;simp[N,a,l,u,bg];generalize N:put W V.ax 7 _ _ 0=h4 at*;have U:=i.ax;have O:az aV V h4:=(I.trans f).trans' i aj (λc t e=>J);have P:h4.ax=W.ax:=by rw[<-N];rfl
  rw[<-P];have u:=aZ i.ok (kh.enc (x,D)) 0;have l:=O.trans u;have w4:=q.cr L l;have U:=u.get i.ok M;have N:bj kh (aM h4 (kh.enc (x,D)) 0) (c6 (Z ⟨h4.ax,0,K⟩) 1 1) [(x,D)]:=dx (bY _ _ _);have O:(aM h4 (kh.enc (x,D)) 0).ax=h4.ax+1:=Q;have y:=r.ax;obtain⟨y,P,M,O,H,y⟩:=fI (bytes:=80) u.ok (z:=[dC ef 0,dC ef 0,dd b9,dC ef 0,dd b9,dC ef 0,dC ef 0,c6 K 0 0]) rfl w4.L N (by simp;omega) ai J;obtain⟨N,rfl⟩:=bx.Fj O;refine df (ak M) ?_;have M:=H.get u.ok U (λe=>(q.new .L X (dV e)).2.2 Q);simp[M,a,v,wj];have U:=aX (off:=1) (vs:=[N.v]) H.ok M;simp at U;have M:=H.ax;have G:∀c,fy D=Z c->h2.ax<=c/\c<W.ax:=λc e=>vb.fy f.ok n e;have M:az (λc=>c=X\/fy F=Z c) V _:=(l.cr.trans (H.cX (λc _ e=>ft (dV (A:=F) e)))).trans (U.cX λc _ e=>fc (e:c=X));have alY:bx kh n0 (put P X 1 _ [N.v] 0) N.v (o++[(x,D)]):=O.grow H.ok U (λc t e=>aw (y c t));have aA6:=((((Fp n).go f.ok i (λc t e=>aw (G c e))).cr i.ok u).go u.ok H (λc t e=>by have:=G c e;have:=(du q.L).lt L (dV (A:=F) t);omega)).go H.ok U (λc t e=>aw (G c e));refine⟨Y b.list-(j+1),J,j+1,N,o++[(x,D)],Q,p,av d,av B,av a,ag,((r.trans l.cr).trans' H aj (λc t e=>aw (hLn c e))).trans U,λc t=>aw (y c t),?_,by rw[aW,k,mw,z];rfl⟩;exact q.ins L (m:=W.ax) J M ⟨P.clock,by rw[bc];rfl⟩ alY aA6 (λc e=>aw (G c e)) (λc e=>aw (y c (jt (du O) e))) lX
 .have:j=Y b.list:=J
  subst this;rw[mI] at k;simp[d,v,s];exact C _ _ F o (av B) (av a) r q k
def RBZ(b:GB)(h:aB)(v:aa)(V:aB):Prop:=az aV h V/\∃y:YB,v=eU ⟨eH.enc y⟩/\BZ V y/\y.g=b/\Bm False y.loc/\∀l c,y.loc l=Z c->h.ax<=c
def GA(k:cy h0)(N:az aV h0 h)(x:Nr h0 P0 L0 T0 b):aY FF 90 [eU ⟨dj P0 L0 T0 b⟩] h (RBZ b h):=by
 have i:=N.ok;have U:¬h.ax=h.ax+1:=J
 refine aY.of C5 ?_;unfold ud;have f:¬h.ax=h.ax+1+1:=J
 have d:¬h.ax+1=h.ax+1+1:=J
 have r:=aZ i (dj P0 L0 T0 b) 0;have s:=aZ r.ok [c6 K 0 0,c6 K 0 0,dC ef 0,dd b9,dC ef 0,c6 K 0 0] 0;have m:=bk s.ok;have O:=aZ m.ok [] 0;have L:=aZ O.ok [c6 K 0 0,c6 K 0 0,dC ef 0,dd b9,dC ef 0,c6 K 0 0] 0;have G:az aV h _:=(((r.trans s).trans m).trans O).trans L;have p:vb encI (h.ax+1+1) _ (c6 (Z ⟨h.ax+1+1,0,K⟩) 0 0) []:=ft ⟨Q,h.ax+1+1,0,Q,L.get O.ok (bY (tick (aM (aM h (dj P0 L0 T0 b) 0) [c6 K 0 0,c6 K 0 0,dC ef 0,dd b9,dC ef 0,c6 K 0 0] 0)) [] 0) (λh=>h),fE _⟩;have A:=(((s.trans m).trans O).trans L).get r.ok (bY h (dj P0 L0 T0 b) 0);have u:=((m.trans O).trans L).get s.ok (bY (aM h (dj P0 L0 T0 b) 0) [c6 K 0 0,c6 K 0 0,dC ef 0,dd b9,dC ef 0,c6 K 0 0] 0);have F:=bY (aM (tick (aM (aM h (dj P0 L0 T0 b) 0) [c6 K 0 0,c6 K 0 0,dC ef 0,dd b9,dC ef 0,c6 K 0 0] 0)) [] 0) [c6 K 0 0,c6 K 0 0,dC ef 0,dd b9,dC ef 0,c6 K 0 0] 0;have O:(aM (aM (tick (aM (aM h (dj P0 L0 T0 b) 0) [c6 K 0 0,c6 K 0 0,dC ef 0,dd b9,dC ef 0,c6 K 0 0] 0)) [] 0) [c6 K 0 0,c6 K 0 0,dC ef 0,dd b9,dC ef 0,c6 K 0 0] 0).ax=h.ax+4:=Q;simp[dj,U,f,d];simp only[dj,SV.AK] at G p A u F O;generalize i:aM (aM (tick (aM (aM h [c6 P0.a P0.l P0.c,c6 L0.a L0.l L0.c,dC ef b.kind,dd b.on.1,dC ef b.on.2,c6 T0.a T0.l T0.c] 0) [c6 K 0 0,c6 K 0 0,dC ef 0,dd b9,dC ef 0,c6 K 0 0] 0)) [] 0) [c6 K 0 0,c6 K 0 0,dC ef 0,dd b9,dC ef 0,c6 K 0 0] 0=h5 at*;have q:=(LR x.sT).cr k (N.trans G);have⟨j,O,y,d,_,w⟩:=uH (bytes:=8) (z:=[dC ef 0]) G.ok rfl p q (by have:=x.lt;simp;omega) ai J;obtain⟨T,rfl⟩:=vb.sv d;refine kW (ak y) ?_;have f:∀c,bD (bo (Z ⟨h.ax+1+1,0,K⟩) 0 0) c->c=h.ax+2:=λc o=>by have⟨_,_,_,e⟩:=o;cases e;rfl
 have s:=w.get G.ok A (λe=>aw (f _ e));have j:=w.get G.ok u (λe=>by have:=f _ e;simp at this);have L:=w.get G.ok F (λe=>by have:=f _ e;simp at this);simp at j L;have E:vb encI (h.ax+1+1) O T.v b.to:=ak d
 have r:∀c,bD T.v c->c≠h.ax+1+1+1:=λc o e=>by rcases E with a|⟨_,l,S,C,z,_⟩;rcases a with⟨_,C⟩|⟨l,S,C,z,_,_⟩;rw[C] at o;have⟨_,_,_,X⟩:=o;cases X;rw[C] at o;have⟨_,_,_,X⟩:=o;cases X;rw[e,L] at z;simp at z;rw[C] at o;have⟨_,_,_,X⟩:=o;cases X;rw[e,L] at z;simp at z
 have z:az aV h O:=G.trans' w aj (λc o e=>aw (f c e));simp[s,j,L];have D:=aX (off:=0) (vs:=[bo K 0 0,bo K 0 0,aL c9 b.kind,eX b.on.1,aL c9 b.on.2,bo T.a T.l T.c]) w.ok L;have v:az aV h _:=z.trans' D aj (λc o e=>J);have p:(put O (h.ax+1+1+1) 0 [c6 K 0 0,c6 K 0 0,dC ef 0,dd b9,dC ef 0,c6 K 0 0] [bo K 0 0,bo K 0 0,aL c9 b.kind,eX b.on.1,aL c9 b.on.2,bo T.a T.l T.c] 0).tr.get (h.ax+1+1+1)=Z (.ch [cU.v,cU.v,dC ef b.kind,dd b.on.1,dC ef b.on.2,T.v] b9 0 O.clock):=by rw[bc];rfl
 have W:=D.get w.ok s J;have q:=D.get w.ok j J;have I:=(Fp E).grow w.ok D (λc o e=>r c o e);generalize put O (h.ax+1+1+1) 0 _ _ 0=h7 at*;have⟨y0,t⟩:∃y0:YB,y0=⟨cU,cU,T,b.kind,b.on,[],[],b.to⟩:=⟨_,Q⟩;have only:∀l c,y0.loc l=Z c->l=.T/\fy T=Z c:=λl c e=>by subst t;cases l<;>first|exact⟨rfl,e⟩|exact absurd e (by simp[YB.loc,fy,cU])
 have P:BF h7 (h.ax+1+1) (h.ax+1+1+1) y0:=by refine⟨⟨_,by rw[t];exact p⟩,by rw[t];exact fc ⟨Q,Q⟩,by rw[t];exact fc ⟨Q,Q⟩,by rw[t];exact I,by rw[t];exact nofun,by rw[t];exact nofun,λa b c h1 A=>fc ((only a c h1).1.trans (only b c A).1.symm),λl c e=>?_⟩;have C:=(only l c e).2;exact⟨(vb.fy w.ok E C).1,I.lt D.ok C,r c (jt I C)⟩
 have F:=v.ax;have l0:=N.ax;have F:=D.ok.wf _ _ p;refine SX k (N.trans v) x (n0:=h.ax+1+1) (S:=h.ax) (X:=h.ax+1+1+1) J (by simpa [dj] using W) J J P (by rw[t]) (by rw[t]) ag ag ag ag ?_;intro n U f V M B r y j F;simp;have A:az aV h U:=v.trans' y aj (λc o e=>J);have s:=y.ax;have S:=y.get D.ok W J;have i:=y.get D.ok q J;refine SU k (N.trans A) x (n0:=h.ax+1+1) (S:=h.ax) (X:=h.ax+1+1+1) J (by simpa [dj] using S) J J j (by rw[t]) (by rw[t]) (av M) (av B) (av r) ag ?_;intro L u s p O q x M k;have⟨g,S⟩:=M.hX;have m:=S;simp[t] at m;have j:=x.get y.ok i J;have v:az aV h u:=A.trans' x aj (λc o e=>J);simp[O,q,m,j];have H:=aX (off:=0) (vs:=[f.v,s.v,dC ef b.kind,dd b.on.1,dC ef b.on.2,T.v]) x.ok j;simp at H;have z:∀l c,({y0 with P:=f,ps:=V,L:=s,ls:=p} :YB).loc l=Z c->h.ax+1+1<=c:=λl c e=>(M.new l c e).1;refine⟨v.trans' H aj (λc o e=>J),{y0 with P:=f,ps:=V,L:=s,ls:=p},av t,M.z.go x.ok H (λc l o e=>aw (z l c e)),by simp[YB.g,F,k,t],M.inj,λl c e=>aw (z l c e)⟩
section
variable{h V:aB}{n0:Nat}{B d:SV}{ys:List YB}{y:YB}{S:Nat->Prop}
def FZ.push(W:FZ h n0 B ys)(s:xk B ys)(C:cy h)(g:az S h V)(r:∀c,S c->fy B=Z c\/h.ax<=c)(z:n0<=h.ax)(A:eo eH V d (ys++[y]))(z:BZ V y)(n:Bm False y.loc)(G:∀l c,y.loc l=Z c->h.ax<=c/\c<m)(j:∀c,fy d=Z c->h.ax<=c/\m<=c):FZ V n0 d (ys++[y])/\xk d (ys++[y]):=by
 have f:∀(o:Option (Nat×Lo))(c:Nat),fx d (ys++[y]) o=Z c->(o=K/\h.ax<=c/\m<=c)\/(∃l,o=Z (Y ys,l)/\y.loc l=Z c)\/(o≠K/\fx B ys o=Z c):=λo c e=>by
  match o with
  |none=>exact fc ⟨Q,j c e⟩
  |some (i,l)=>
   have⟨q,h1,D⟩:=OO.1 e;by_cases H:i<Y ys
   .rw[Jf H] at h1;exact ft (ft ⟨nofun,OO.2 ⟨q,h1,D⟩⟩)
   .rw[Hv J] at h1;have:i-Y ys=0:=by have:=(cR.mp h1).1;simp at this;omega
    rw[this] at h1;cases h1;exact ft (fc ⟨l,by rw[show i=Y ys by omega],D⟩)
 have j:xk d (ys++[y]):=λa b c h1 D=>by
  rcases f a c h1 with⟨p,t,u⟩|⟨l,p,t⟩|⟨p,t⟩<;>rcases f b c D with⟨q,w,u⟩|⟨k,q,w⟩|⟨q,w⟩;exact fc (p.trans q.symm);have:=G k c w;omega;have:=W.lt C w;omega;have:=G l c t;omega;exact(n l k c t w).imp (λe=>by rw[p,q,e]) λe=>e.1.elim;have:=G l c t;have:=W.lt C w;omega
  have:=W.lt C t;omega;have:=G k c w;have:=W.lt C t;omega
  exact s a b c t w
 refine⟨⟨A,λx E=>?_,λa b c h1 D=>(j a b c h1 D).imp id λe=>e.1.elim,λo c e=>?_⟩,j⟩
 .rcases jL.1 E with E|E
  .have⟨i,H⟩:=iF E;refine(W.r x E).go C g λc l n e=>?_;have j:fx B ys (Z (i,l))=Z c:=by rw[cJ H];exact e
   rcases r c n with I|I;have:=W.uO K (Z (i,l)) c I j;cases this;have:=W.lt C j;omega
  cases br.1 E;exact z
 rcases f o c e with⟨_,p,_⟩|⟨l,_,p⟩|⟨_,p⟩;omega;have:=G l c p;omega;exact W.new o c p
def FZ.zero(t:n0<=h.ax):FZ h n0 cU []/\xk cU []:=by
 have no:∀(o:Option (Nat×Lo))(c:Nat),fx cU [] o≠Z c:=λo c e=>by
  match o with
  |none=>cases e
  |some (i,l)=>simp[fx] at e
 exact⟨⟨⟨Q,fc ⟨Q,Q,Q⟩⟩,nofun,λa b c h1 _=>absurd h1 (no a c),λo c e=>absurd e (no o c)⟩,λa b c h1 _=>absurd h1 (no a c)⟩
end
def FnZ(h1:aB)(S X:Nat)(name:ByteArray)(p r:Int)(bs:List GB)(m:Nat)(e:Env)(V:aB):Prop:=
 ∃(j:Nat) (a:SV) (ys:List YB),m=Y bs-j/\j<=Y bs/\cg e 1 S/\cg e 2 (S+1)/\cg e 3 X/\bz e 4 j/\az (· =X) h1 V/\(c_ V X (aC name p r a))/\bx eH h1.ax V a.v ys/\FZ V h1.ax a ys/\xk a ys/\ys.map YB.g=bs.take j
def QK(P:cy h0)(a:cy h1)(x:∀ {V:aB},az (· =X) h1 V->az aV h0 V){p r:Int}(l:mm h0 B bs)(i:∀b∈bs,Hb b)(z:Y bs<100000){S E g:Nat}(n:X<h1.ax)(O:dR h1 S (aC name p r B) E)(q:S≠X)(F:dR h1 X (aC name p r cU) g)(v:cg e 1 S)(u:cg e 2 (S+1))(M:cg e 3 X)(k:bz e 4 0)(C:∀U V f ys,cg U 2 (S+1)->cg U 3 X->az (· =X) h1 V->(c_ V X (aC name p r f))->FZ V h1.ax f ys->xk f ys->ys.map YB.g=bs->T (.exit 0) U V):aN FF (.loop lx) e h1 T:=by
 have z:=ae.len l;have f:=FZ.zero (h:=h1) (fE h1.ax);refine aN.loop (FnZ h1 S X name p r bs) ?_ (n:=Y bs) ⟨0,cU,[],Q,J,v,u,M,k,.refl a,⟨g,F⟩,fc ⟨Q,Q⟩,f.1,f.2,Q⟩;rintro m U V⟨j,d,ys,rfl,L,F,A,s,u,f,⟨sX2,fh⟩,w,v,N,k⟩;have t:=f.ok;have n:az aV h0 V:=x f;have M:=f.get a O q;have o:=M;have G:=fh;simp[aC] at o G;rw[z] at o;unfold lx;by_cases O:j<Y bs
 .have wj:=bZ ((j:Int)+1) J J;have⟨b,p⟩:=aR bs j O;have L:=cK p;obtain⟨a,Dr,q,q,_,_,⟨P0,L0,T0,rfl,U,sL,M⟩,a,W⟩:=ae.later P l p;have l:=W V n 0 6 ai;simp[-ay] at l;rw[q] at o;have x:=t.bU o;have oX:=t.bU G;have q:=n.bU a;have r:=t.st _ _ _ _ _ G;have z:=i b L;simp[F,s,u,o,G,aD o,aD G,O,l,x,oX,q,aK,-ay];have x:=bk t;have i:(tick V).ax=V.ax:=Q;generalize tick V=h2 at*;refine ck.call (V:=RBZ b h2) (by simpa [dj] using GA P (n.trans x) (P0:=P0) (L0:=L0) (T0:=T0) ⟨U,sL,M,z.lp,z.ll,z.lr,z.la,z.lt⟩) ?_;rintro _ I⟨H,y,rfl,U,yg,iy,ny⟩;have a:=H.get x.ok (x.get t G (λh=>h));have M:=t.wf _ _ G;simp[a,r];have q:=aZ H.ok (eH.enc y) 0;have D:=(x.trans H).trans q;have l:=w.grow t D aj;have i:=q.get H.ok a;have P:bj eH (aM I (eH.enc y) 0) (c6 (Z ⟨I.ax,0,K⟩) 1 1) [y]:=dx (bY _ _ _);have z:(aM I (eH.enc y) 0).ax=I.ax+1:=Q;have l1:=f.ax;have M:=H.ax;have n:Y ys=j:=by have:=congrArg dk k;simp at this;omega
  obtain⟨a,a,x,M,r,L⟩:=fI (bytes:=96) q.ok (z:=[c6 K 0 0,c6 K 0 0,dC ef 0,dd b9,dC ef 0,c6 K 0 0]) rfl l P J ai J;obtain⟨z,rfl⟩:=bx.Fj M;refine kW (ak x) ?_;have P:¬bD d.v X:=λe=>aw (w.of e)
  have n:=r.get q.ok i P;simp[n,s,u,wj];have P:=aX (off:=3) (vs:=[z.v]) r.ok n;simp at P;have n:∀l c,y.loc l=Z c->V.ax<=c/\c<I.ax:=λl c e=>⟨aw (ny l c e),U.lt H.ok e⟩;have x:=(U.cr H.ok q).go q.ok r (λc l i e=>by have:=n l c e;have:=(du w).lt t (dV (A:=d) i);omega);have U:=v.push N (m:=I.ax) t (D.cr.trans r) (λc i=>fc (dV i)) l1 (du M) x iy n (λc e=>aw (L c (jt (du M) e)));refine⟨Y bs-(j+1),J,j+1,z,ys++[y],Q,O,av F,av A,av s,ag,((f.trans D.cr).trans' r aj (λc i e=>aw (w.of e))).trans P,⟨a.clock,by rw[bc];rfl⟩,M.grow r.ok P (λc i e=>aw (L c i)),U.1.go r.ok P (λc l e x=>aw (U.1.new l c x)),U.2,by rw[aW,k,mw,p,<-yg];rfl⟩
 .have:j=Y bs:=J
  subst this;rw[mI] at k;simp[F,u,o];exact C _ _ d ys (av A) (av s) f ⟨sX2,fh⟩ v N k
def tw(W:cy h0)(a:az aV h0 h){name:ByteArray}{p r:Int}(m:mm h0 B bs)(j:∀b∈bs,Hb b)(i:Y bs<100000):aY FF 37 [eU ⟨aC name p r B⟩] h (js name p r bs h):=by
 have f:=a.ok;have C:¬h.ax=h.ax+1:=J
 have D:¬h.ax=h.ax+1+1:=J
 have w:¬h.ax+1=h.ax+1+1:=J
 refine aY.of Ee ?_;unfold vq;simp[aC,C,D,w,bg];refine aN.cut (λh1=>az aV h h1/\(c_ h1 h.ax (aC name p r B))/\(c_ h1 (h.ax+1) [eT ⟨⟨[]⟩⟩,dC ef 0,dC ef 0,c6 K 0 0])/\(c_ h1 (h.ax+1+1) (aC name p r cU))/\h.ax+3<=h1.ax) ?_ ?_;refine⟨(((az.refl f).new _ _).new _ _).var _ _,⟨0,by simp[C,D,w,aC]⟩,⟨0,by simp[C,D,w]⟩,⟨h.clock,by simp[bg,aC,cU]⟩,ag⟩;rintro h1⟨t,⟨E,k⟩,⟨f,l⟩,⟨g,f⟩,d⟩;have l0:=a.ax;refine QK W t.ok (λd=>(a.trans t).trans' d aj (λc d e=>J)) m j i (S:=h.ax) (X:=h.ax+1+1) J k J f ag ag ag ag ?_;intro a a I ys V a o ⟨f,G⟩ F xi mp;have H:=o.get t.ok l J;simp[aC] at G;simp[V,a,G,H];have a:=aX (off:=0) (vs:=[eT name,dC ef p,dC ef r,I.v]) o.ok H;simp at a;exact⟨(t.trans' o aj (λc d e=>J)).trans' a aj (λc d e=>J),I,ys,by simp[aC],(F.go o.ok a (λc l e a=>aw (F.new l c a))).cX J,xi,mp⟩
def axs(h1:aB)(xs:List Int)(a:List (Int×(Bool×Int)))(e:Env)(m:Nat)(b:Env)(V:aB):Prop:=
 ∃(j:Nat) (L:SV),m=Y a-j/\j<=Y a/\aH ([10,11,12]++(aA 25).map (· +54)) e b/\bX b 10=L.v/\bz b 11 j/\az aV h1 V/\bx fG h1.ax V L.v (fM (aO xs) (a.take j))
def UA(f:Int->Int)(l:List (Int×(Bool×Int))):Y (fM f l)<=Y l:=List.length_filterMap_le _ _
def Yl(f:cy h1){O E:SV}{b:List (Int×(Bool×Int))}(r:bj encI h1 O.v xs)(i:bj fG h1 E.v b)(s:Y xs<1000000)(l:Y b<1000000)(l:bX e 1=O.v)(q:bX e 9=E.v)(h:bX e 10=cU.v)(n:bz e 11 0)(C:∀d V (L:SV),aH ([10,11,12]++(aA 25).map (· +54)) e d->bX d 10=L.v->az aV h1 V->bx fG h1.ax V L.v (fM (aO xs) b)->T (.exit 4) d V):aN FF (.loop lC) e h1 T:=by
 have G:E.l=Y b:=by have⟨a,p,e,_⟩:=id i;simp at e;exact e.2.1
 refine aN.loop (axs h1 xs b e) ?_ (n:=Y b) ⟨0,cU,Q,J,aH.refl _ _,h,n,.refl f,fc ⟨Q,Q⟩⟩;rintro m d V⟨j,L,rfl,d,d,h,D,g,o⟩;have n:=g.ok;have p:=d.at (t:=1) l;have w:=d.at (t:=9) q;unfold lC;by_cases H:j<Y b
 .have l:=bZ ((j:Int)+1) J J;have⟨x,q⟩:=aR b j H;obtain⟨d,d,d,I,_,_,d⟩:=(i.cr f g).read q;have i:=d 0 1 ai;have k:=d 1 2 ai;simp[-ay] at i k I;simp at w;rw[I.1,G] at w;have d:=Lz (f:=aO xs) q;have q:=UA (aO xs) (b.take j);have q:Y (b.take j)<=j:=by simp;omega
  have q:=g.ax;simp[p,w,D,H,i,-ay];refine bm.call (V:=λv i=>i=V/\v=dC ef (aO xs x.1)) (by simpa [p] using pf (r.cr f g) s x.1) ?_;rintro _ i⟨f,rfl⟩;rw[f];by_cases W:0<=aO xs x.1
  .rw[bH W] at d;simp[W,w,h,D,H,k,-ay];have f:=aZ n (fG.enc (aO xs x.1,x.2)) 0;have k:=o.grow n f aj;have i:bj fG (aM V (fG.enc (aO xs x.1,x.2)) 0) (c6 (Z ⟨V.ax,0,K⟩) 1 1) [(aO xs x.1,x.2)]:=dx (bY _ _ _);have n:(aM V (fG.enc (aO xs x.1,x.2)) 0).ax=V.ax+1:=Q;obtain⟨n,n,s,n,r,_⟩:=fI (bytes:=24) f.ok (z:=[dC ef 0,dd b9,dC ef 0]) rfl k i J ai J;obtain⟨k,rfl⟩:=bx.Fj n;refine df (ak s) ?_;simp[D,l];refine⟨Y b-(j+1),J,j+1,k,Q,H,?_,ag,ag,(g.trans f).trans' r aj (λc r e=>aw (o.of e)),by rw[d];exact n⟩
   exact au
  .rw[bM W,ye] at d;simp[W,D,l];refine⟨Y b-(j+1),J,j+1,L,Q,H,?_,av h,ag,g,by rw[d];exact o⟩
   exact au
 .have:j=Y b:=J
  subst this;rw[mI] at o;simp at w;rw[G] at w;simp[w,D];refine C _ _ L ?_ (av h) g o
  exact au
def yN(X:Nat):SV:=⟨Z ⟨X,0,K⟩,1,1⟩
def aiF(o:dR h X (eH.enc y) s):eo eH h (yN X) [y]:=⟨Q,ft ⟨X,0,s,[],Q,Q,by simpa [ly.flat] using o,fc Q⟩⟩
structure KR1(h0 h1:aB)(n0 F X:Nat)(name:ByteArray)(p r:Int)(B O:SV)(bs:List GB)(bw:List Nat):Prop where
 g:az aV h0 h1
 ok:cy h0
 hB:mm h0 B bs
 E:EB bs
 hO:bj encI h0 O.v (nI bw)
 ol:Y bw<100000
 hF:c_ h1 F (aC name p r B)
 lF:F<n0
 l0:h0.ax<=n0
 lX:n0<=X
def aw9(h1:aB)(n0 X:Nat)(y0:YB)(P:GP->GP)(e:Env)(m:Nat)(a:Env)(V:aB):Prop:=
 ∃(j:Nat) (o:List (GP×SV)),m=Y y0.ps-j/\j<=Y y0.ps/\aH ([8,9,10,11,12]++(aA 60).map (· +36)) e a/\bz a 8 j/\(c_ V X (eH.enc y0))/\cM h1 V n0 (yN X) [y0] (yN X) [{y0 with ps:=o}]/\Y o=Y y0.ps/\∀(i:Nat)(q t:GP×SV),y0.ps[i]?=Z q->o[i]?=Z t->(i<j->t.1=P q.1)/\(j<=i->t=q)
def Ym{n0 F X:Nat}{d r':Int}{E:List Nat}(R:KR1 h0 h1 n0 F X name d r' B O bs E)(hn:n0<=h1.ax){r:GB}(L:E[n]?=Z k)(N:bs[k]?=Z r)(AZ:y0.g=r)(W:FZ h1 n0 (yN X) [y0])(z:dR h1 X (eH.enc y0) g)(f1:bX e 1=O.v)(l:cg e 2 F)(f6:bz e 6 n)(U:cg e 7 X)(y:bz e 8 0)(C:∀s V p,aH ([8,9,10,11,12]++(aA 60).map (· +36)) e s->(c_ V X (eH.enc y0))->cM h1 V n0 (yN X) [y0] (yN X) [{y0 with ps:=p}]->p.map (·.1)=r.aP.map (nM (aO (nI E)) (Y E) (aI bs k))->T (.exit 2) s V):aN FF (.loop lD) e h1 T:=by
 have S:=R.E.n50;have M:=R.g.ok;have A:Y y0.ps<100000:=by have:=R.E.pl r (cK N);rw[<-AZ] at this;simpa [YB.g] using this
 refine aN.loop (aw9 h1 n0 X y0 (nM (aO (nI E)) (Y E) (aI bs k)) e) ?_ (n:=Y y0.ps) ⟨0,y0.ps,Q,J,aH.refl _ _,y,⟨g,z⟩,.refl W M,Q,λi q o a b=>⟨λh=>J,λ_=>by rw[a] at b;cases b;rfl⟩⟩;rintro m s V⟨j,p,rfl,s,y,q8,⟨RU,w⟩,S,f,H⟩;have s:=S.g;have I:=s.ok;have u:∀c,cm (yN X) [y0] c->n0<=c:=λc ⟨A,e⟩=>W.new A c e;have g0:az aV h0 V:=R.g.trans' s aj (λc hc e=>by have:=u c e;have:=R.l0;omega);have A:=y.at (t:=1) f1;have q2:=y.at (t:=2) l;have q6:=y.at (t:=6) f6;have q7:=y.at (t:=7) U;have⟨t,y⟩:=R.hF;have z:=s.get M y (λe=>by have:=u F e;have:=R.lF;omega);have P:=S.w.at (i:=0) rfl;have F:=P.P.len;simp at w z F;have M:O.l=Y E:=by have⟨a,U,e,_⟩:=id R.hO;simp[nI] at e;exact e.2.1
 unfold lD;by_cases s:j<Y y0.ps
 .have wj:=bZ ((j:Int)+1) J J;have⟨q,l⟩:=aR y0.ps j s;have⟨o,U⟩:=aR p j;have u:=(H j q o l U).2 (fE _);subst u;have y:r.aP[j]?=Z o.1:=by rw[<-AZ];simp[YB.g,l]
  have u:=R.E.rows k r N o.1 (cK y);have r:=h_ bs k;obtain⟨bP,cP,oP,u,gy,sJ,y,dM,u,eI⟩:=P.P.el U;have r:=u 0 2 ai;simp[-ay] at r;have RA:=P.ps o (cK U);obtain⟨N,N,y,N,y,oO,u⟩:=(R.hO.cr R.ok g0).read (LQ L);have y:=u 0 1 ai;simp[-ay] at y N;simp at A;rw[N.1,M] at A;rw[gy,F,f] at w;have Ui:=(cR.mp L).1;have oX:=I.bU w;have L:=I.bU z;have u:=I.bU sJ;simp[A,q2,q6,q7,q8,w,z,aD w,aD z,s,Ui,r,y,oX,L,u,oO,aK,aC,-ay];have D:=bk I;have u:=S.cr D;have XC:=D.get I w;have aza:=D.get I sJ;have L:(tick V).ax=V.ax:=Q;generalize tick V=y at*;have r:=g0.trans D;refine ck.call (V:=λv V=>az aV y V/\∃L:SV,v=L.v/\bx fG y.ax V L.v (dJ bs k o.1.row)) (by simpa [aC] using vM D.ok (name:=name) (p:=d) (r:=r') (dst:=o.1.dst) (R.hB.mono R.ok r) (RA.cr I D).auV J (λx u=>aw (R.E.two u)) k J) ?_;rintro _ u⟨d,L,rfl,z⟩;simp;have jP:Y (dJ bs k o.1.row)<1000000:=by unfold dJ;rw[List.length_zip];omega
  refine Yl (O:=O) (E:=L) (xs:=nI E) d.ok (R.hO.cr R.ok (r.trans d)) z.sl (by simp[nI];have:=R.ol;omega) jP (by simp[A,N.1,M]) ag (by simp[cU]) ag ?_;intro r u z z p10 G qN;have k1:bX r 1=O.v:=z.at (by simp[A,N.1,M]);have A:cg r 7 X:=z.at (aq q7);have k8:bX r 8=dC ef j:=z.at (aq q8);have N:=d.trans G;have r:=N.get D.ok XC;have ajd:=N.get D.ok aza;have N:Y (fM (aO (nI E)) (dJ bs k o.1.row))<1000000:=Nat.lt_of_le_of_lt (UA _ _) jP;simp at k1;rw[M] at k1;have M:=G.ok.bU r;have Sh:=G.ok.st _ _ _ _ _ r;simp[k1,A,k8,p10,r,aD r,M,aK,-ay];have M:=bk G.ok;have nC:=M.get G.ok r;have A:=M.get G.ok ajd;have r:=qN.grow G.ok M aj;have n4:(tick u).ax=u.ax:=Q;have c4:(tick u).clock=u.clock+1:=Q;generalize tick u=h5 at*;refine ck.call (V:=λv V=>az aV h5 V/\∃L:SV,v=L.v/\bx cH h5.ax V L.v (fZ (fM (aO (nI E)) (dJ bs k o.1.row)) (Y E))) (ak (zr M.ok r.sl N (Y E) R.ol)) ?_;rintro _ h6⟨r,N,rfl,u⟩;have L:=r.get M.ok nC;have ar9:=r.get M.ok A;have A:=dM 1 1 ai;simp at A;simp[L,Sh,s,ar9,A,k8,wj];have A:=aX (off:=j*2+1) (vs:=[N.v]) r.ok ar9;simp at A;have Ni:=eI (nM (aO (nI E)) (Y E) (aI bs k) o.1,N) 1 [N.v] ag (by simp[bg,nM]) (put h6 bP (j*2+1) cP [N.v] oP) ⟨_,bc _ _ _ _ _ _⟩;simp at Ni;have nXP:X≠bP:=λe=>by have:=S.w.uO K (Z (0,.P)) X rfl (by rw[e];exact cj gy);cases this
  have Su:=A.get r.ok L nXP;have L:=(((D.trans d).trans G).trans M).trans r;have l6:=(((D.trans d).trans G).trans M).ax;have M:=S.row (j:=j) hn (i:=0) rfl U (p':=(nM (aO (nI E)) (Y E) (aI bs k) o.1,N)) (L.cr.trans (A.cX λc _ e=>fc ⟨.P,fc Q,by rw[e];exact cj gy⟩)) Ni ((du u).go r.ok A λc hc e=>by have:=u.of (jt (du u) e);have:=I.wf _ _ sJ;omega) (λc e=>ft (aw (u.of (jt (du u) e))))
  generalize put h6 bP _ _ _ _=h7 at*;refine⟨Y y0.ps-(j+1),J,j+1,p.set j (nM (aO (nI E)) (Y E) (aI bs k) o.1,N),Q,s,?_,ag,⟨RU,by have E:y0.P.a=Z ⟨bP,0,K⟩:=gy;have N:y0.P.l=Y y0.ps:=F.trans f;simpa [E,N] using Su⟩,M,av f,λi a c h1 y=>?_⟩
  .repeat (refine aH.set ?_)
   refine aH.trans ?_ (z.cX)
   exact au
  rw[fq] at y;by_cases e:j=i;subst e;rw[bH Q,bH J] at y;cases y;rw[l] at h1;cases h1;exact⟨λ_=>rfl,λh=>J⟩;rw[bM e] at y;have⟨d,A⟩:=H i a c h1 y;exact⟨λh=>d J,λh=>A J⟩
 .have:j=Y y0.ps:=J
  subst this;rw[F,f] at w;simp[q7,q8,w,aD w,-ay];refine C _ _ p ?_ ⟨RU,by have N:y0.P.l=Y y0.ps:=F.trans f;simpa [N] using w⟩ S (Bc λi=>?_)
  .exact au
  rw[<-AZ,gu,gu];simp only[YB.g,gu];rcases Bb i (Y y0.ps) with M|M;have⟨q,l⟩:=aR y0.ps i M;have⟨o,U⟩:=aR p i (by rw[f];exact M);rw[l,U];simp only[zz];rw[(H i q o l U).1 M];rw[xE M,xE (by rw[f];exact M)];rfl
def aw8(h1:aB)(n0 X:Nat)(y0:YB)(f:Int->Int)(e:Env)(m:Nat)(a:Env)(V:aB):Prop:=
 ∃(j:Nat) (to:List Int),m=Y y0.to-j/\j<=Y y0.to/\aH ([13]++(aA 21).map (· +88)) e a/\bz a 13 j/\(c_ V X (eH.enc y0))/\cM h1 V n0 (yN X) [y0] (yN X) [{y0 with to:=to}]/\to=(y0.to.take j).map f++y0.to.drop j
def Rc(A:cy h0)(U:az aV h0 h1)(l0:h0.ax<=n0)(hn:n0<=h1.ax)(B:bj encI h0 O.v xs)(Bh:Y xs<1000000)(l:Y y0.to<1000000)(W:FZ h1 n0 (yN X) [y0])(M:dR h1 X (eH.enc y0) g)(s:bX e 1=O.v)(k:cg e 7 X)(d:bz e 13 0)(C:∀h V,aH ([13]++(aA 21).map (· +88)) e h->(c_ V X (eH.enc y0))->cM h1 V n0 (yN X) [y0] (yN X) [{y0 with to:=y0.to.map (aO xs)}]->T (.exit 6) h V):aN FF (.loop lz) e h1 T:=by
 have f:=U.ok;refine aN.loop (aw8 h1 n0 X y0 (aO xs) e) ?_ (n:=Y y0.to) ⟨0,y0.to,Q,J,aH.refl _ _,d,⟨g,M⟩,.refl W f,ag⟩;rintro m h V⟨j,to,rfl,x,b,i,⟨d,o⟩,S,q⟩;have x:=S.g;have D:=x.ok;have u:∀c,cm (yN X) [y0] c->n0<=c:=λc ⟨l,e⟩=>W.new l c e;have M:az aV h0 V:=U.trans' x aj (λc h e=>aw (u c e));have l:=b.at (t:=1) s;have U:=b.at (t:=7) k;have P:=S.w.at (i:=0) rfl;have y:y0.T.l=Y to:=P.T.len;have w:Y to=Y y0.to:=by rw[q];simp;omega
 simp at o;have z:O.l=Y xs:=by have⟨a,p,e,_⟩:=id B;simp at e;exact e.2.1
 unfold lz;by_cases E:j<Y y0.to
 .have f:=bZ ((j:Int)+1) J J;have⟨t,u⟩:=aR y0.to j E;have L:to[j]?=Z t:=by rw[q,Hv (by simp;omega)];simp[lA (uo E),u]
  obtain⟨k,cT,r,F,F,s,n,x,N,b⟩:=P.T.el L;have H:y0.T.a=Z ⟨k,0,K⟩:=F;have n:=N 0 1 ai;simp[-ay] at n;rw[H,y,w] at o;have h:=D.bU o;have N:=D.bU s;have p:=D.st _ _ _ _ _ o;have L:=D.st _ _ _ _ _ s;simp at l;rw[z] at l;simp[l,U,i,o,aD o,E,n,h,N,aK,-ay];have G:=bk D;have N:=S.cr G;have n:=G.get D o;have I:=G.get D s;have L:(tick V).clock=V.clock+1:=Q;generalize tick V=h2 at*;refine ck.call (V:=λv h=>h=h2/\v=dC ef (aO xs t)) (by simpa [z] using pf (B.cr A (M.trans G)) Bh t) ?_;rintro _ h⟨z,rfl⟩;rw[z];have B:=x 0 1 ai;simp at B;simp[n,p,E,I,B,i,f];have p:=aX (off:=j) (vs:=[dC ef (aO xs t)]) G.ok I;have B:=b (aO xs t) 0 [dC ef (aO xs t)] ag (by simp[bg]) (put h2 k j cT [dC ef (aO xs t)] r) ⟨h2.clock,ag⟩;have l:X≠k:=λe=>by have:=S.w.uO K (Z (0,.T)) X rfl (by rw[e];exact cj F);cases this
  have M:=p.get G.ok n l;have r:=S.to (to':=to.set j (aO xs t)) hn (i:=0) rfl (G.cr.trans (p.cX λc _ e=>fc ⟨.T,Q,by rw[e];exact cj F⟩)) B;generalize put h2 k _ _ _ _=h7 at*;refine⟨Y y0.to-(j+1),J,j+1,to.set j (aO xs t),Q,E,?_,ag,⟨d,by have f:y0.T.l=Y y0.to:=y.trans w;simpa [H,f] using M⟩,r,?_⟩
  .exact au
  rw[q,mw,u];rw[Ds _ _ (by simp;omega)];simp[lA (uo E)];rw[fj E,w9]
 .have:j=Y y0.to:=J
  subst this;rw[mI,cG,ye] at q;rw[y,w] at o;simp[U,i,o,aD o,-ay];refine C _ _ ?_ ⟨d,by have f:y0.T.l=Y y0.to:=y.trans w;simpa [f] using o⟩ (by rw[<-q];exact S)
  exact au
def al0(G:dR h X (eH.enc y) s)(z:BZ h y)(E:Bm False y.loc)(D:∀l c,y.loc l=Z c->X<c):FZ h X (yN X) [y]/\xk (yN X) [y]:=by
 have d:∀(o:Option (Nat×Lo))(c:Nat),fx (yN X) [y] o=Z c->(o=K/\c=X)\/∃l,o=Z (0,l)/\y.loc l=Z c:=λo c e=>by
  match o with
  |none=>exact fc ⟨Q,by cases e;rfl⟩
  |some (i,l)=>
   have⟨q,h1,t⟩:=OO.1 e;have:i=0:=by have:=(cR.mp h1).1;simpa using this
   subst this;cases h1;exact ft ⟨l,Q,t⟩
 have f:xk (yN X) [y]:=λa b c h1 t=>by rcases d a c h1 with⟨p,w⟩|⟨l,p,w⟩<;>rcases d b c t with⟨q,C⟩|⟨k,q,C⟩;exact fc (p.trans q.symm);have:=D k c C;omega;have:=D l c w;omega;exact(E l k c w C).imp (λe=>by rw[p,q,e]) λe=>e.1.elim
 refine⟨⟨aiF G,λx H=>by cases br.1 H;exact z,λa b c h1 t=>(f a b c h1 t).imp id λe=>e.1.elim,λo c e=>?_⟩,f⟩;rcases d o c e with⟨_,p⟩|⟨l,_,p⟩;omega;have:=D l c p;omega
def aw_(h1:aB)(F R G:Nat)(O:SV)(name:ByteArray)(p r:Int)(bs:List GB)(b:List Nat)(m:Nat)(e:Env)(V:aB):Prop:=
 ∃(n:Nat) (a:SV) (ys:List YB),m=Y b-n/\n<=Y b/\bX e 1=O.v/\cg e 2 F/\cg e 4 R/\cg e 5 G/\bz e 6 n/\az (· =G) h1 V/\(c_ V G (aC name p r a))/\bx eH h1.ax V a.v ys/\FZ V h1.ax a ys/\xk a ys/\ys.map YB.g=(bu bs b).take n
def agh{a:List Nat}{x:GB}(o:a[n]?=Z k)(t:bs[k]?=Z x):(bu bs a)[n]?=Z (eM (aO (nI a)) (Y a) (aI bs k) x):=by unfold bu;rw[gu,o];simp only[zz];rw[t];rfl
def UB(s:cy h0)(M:cy h1){F R G:Nat}(A:∀ {V:aB},az (· =G) h1 V->az aV h0 V){p r:Int}{i:List Nat}(f:mm h0 B bs)(E:EB bs)(x:∀b∈bs,Hb b)(q:bj encI h0 O.v (nI i))(ol:Y i<100000)(u:∀k∈i,k<Y bs)(L:G<h1.ax)(d:dR h1 F (aC name p r B) t)(nFG:F≠G)(X:dR h1 G (aC name p r cU) D)(j:h0.ax<=h1.ax)(N:bX e 1=O.v)(z:cg e 2 F)(l:cg e 4 R)(U:cg e 5 G)(S:bz e 6 0)(C:∀v V j ys,cg v 4 R->cg v 5 G->az (· =G) h1 V->(c_ V G (aC name p r j))->FZ V h1.ax j ys->xk j ys->ys.map YB.g=bu bs i->T (.exit 0) v V):aN FF (.loop lJ) e h1 T:=by
 have dq:=ae.len f;have L:O.l=Y i:=by have⟨a,j,e,_⟩:=id q;simp[nI] at e;exact e.2.1
 have P:=FZ.zero (h:=h1) (fE h1.ax);have j:Y (bu bs i)=Y i:=by simp[bu]
 refine aN.loop (aw_ h1 F R G O name p r bs i) ?_ (n:=Y i) ⟨0,cU,[],Q,J,N,z,l,U,S,.refl M,⟨D,X⟩,fc ⟨Q,Q⟩,P.1,P.2,Q⟩;rintro m v V⟨n,B2,ys,rfl,U,j,q2,q4,q5,v,g,⟨sG2,hG2⟩,J',W,xi,S⟩;have w:=g.ok;have X:az aV h0 V:=A g;have N:=g.get M d nFG;have P:=N;have hG3:=hG2;simp[aC] at P hG3;unfold lJ;by_cases Ui:n<Y i
 .have wn:=bZ ((n:Int)+1) J J;have⟨k,A⟩:=aR i n Ui;have l:=u k (cK A);have⟨b,U⟩:=aR bs k l;have z:=x b (cK U);obtain⟨d,Dr,M,dY,_,_,⟨P0,L0,T0,rfl,sP,sL,x⟩,oB,u⟩:=ae.later s f U;have d:=u V X 0 6 ai;simp[-ay] at d;obtain⟨M,u,M,u,M,oO,hrO⟩:=(q.cr s X).read (LQ A);have M:=hrO 0 1 ai;simp[-ay] at M u;simp at j;rw[u.1,L] at j;rw[dY,dq] at P;have oF:=w.bU P;have HU:=X.bU oB;have ln:=g.ax;simp[j,q2,q4,q5,v,P,aD P,Ui,l,M,d,oF,HU,oO,aK,bh,-ay];have M:=(bk w).trans (aZ (bk w).ok [c6 K 0 0,c6 K 0 0,dC ef 0,dd b9,dC ef 0,c6 K 0 0] 0);have P:=bY (tick V) [c6 K 0 0,c6 K 0 0,dC ef 0,dd b9,dC ef 0,c6 K 0 0] 0;have d:(aM (tick V) [c6 K 0 0,c6 K 0 0,dC ef 0,dd b9,dC ef 0,c6 K 0 0] 0).ax=V.ax+1:=Q;have d:(tick V).ax=V.ax:=Q;rw[d] at P;generalize aM (tick V) _ 0=h2 at*;refine ck.call (V:=RBZ b h2) (by simpa [dj] using GA s (X.trans M) (P0:=P0) (L0:=L0) (T0:=T0) ⟨sP,sL,x,z.lp,z.ll,z.lr,z.la,z.lt⟩) ?_;rintro _ d⟨x,y,rfl,Y3,yg,iy,ny⟩;have l:=x.get M.ok P;simp[l];have P:=aX (off:=0) (vs:=eH.enc y) x.ok l;have iG:(put d V.ax 0 [c6 K 0 0,c6 K 0 0,dC ef 0,dd b9,dC ef 0,c6 K 0 0] (eH.enc y) 0).tr.get V.ax=Z (.ch (eH.enc y) b9 0 d.clock):=by rw[bc];rfl
  simp only[FY,SV.AK] at P iG;have l:=x.ax;have lyX:∀l c,y.loc l=Z c->V.ax<c:=λl c e=>aw (ny l c e)
  have Y4:=Y3.go x.ok P (λc l e h=>aw (lyX l c h));generalize hh4:put d V.ax 0 _ _ 0=h4 at*;have I:az aV V h4:=(M.trans x).trans' P aj (λc H e=>J);have d:=P.ax;have⟨M,x4⟩:=al0 (ak iG) Y4 iy lyX;have P:F<V.ax:=w.wf _ _ N;have x:G<V.ax:=w.wf _ _ hG2;have x:=I.get w N;have KR:KR1 h0 h4 V.ax F V.ax name p r B O bs i:=⟨X.trans I,s,f,E,q,ol,⟨t,x⟩,P,J,fE _⟩;refine Ym KR J A U yg M (ak iG) (by simp[j,u.1,L]) (av q2) (av v) ag ag ?_;intro r P p N ⟨x,nC⟩ T5 M5;have f:bX r 1=O.v:=N.at (by simp[j,u.1,L]);have a2:=N.at (t:=2) (aq q2);have a4:=N.at (t:=4) (aq q4);have a5:=N.at (t:=5) (aq q5);have a6:=N.at (t:=6) (aq v);have d:cg r 7 V.ax:=N.at ag;simp;have N:∀c,cm (yN V.ax) [y] c->V.ax<=c:=λc ⟨l,e⟩=>M.new l c e;have x:az aV V P:=I.trans' T5.g aj (λc H e=>aw (N c e));have P:y.to=b.to:=by rw[<-yg];rfl
  have M:Y y.to<1000000:=by rw[P];have:=z.lt;omega
  refine Rc (y0:= {y with ps:=p}) s (X.trans x) (n0:=V.ax) (X:=V.ax) J x.ax q (by simp[nI];omega) M T5.w nC (av f) (av d) ag ?_;intro r M u ⟨x,P⟩ T6;have b1:=u.at (t:=1) (aq f);have b2:=u.at (t:=2) (aq a2);have b4:=u.at (t:=4) (aq a4);have z:=u.at (t:=5) (aq a5);have b6:=u.at (t:=6) (aq a6);have r:=u.at (t:=7) (aq d);have X:=T5.trans T6;have f:az aV V M:=I.trans' X.g aj (λc H e=>aw (N c e));have q:=f.get w hG3;simp at P;simp[z,r,q,P];have⟨o,P⟩:∃o:YB,o= {y with ps:=p,to:=y.to.map (aO (nI i))} :=⟨_,Q⟩;have e3:eH.enc o=eH.enc y:=by rw[P];rfl
  have s:cM h4 M V.ax (yN V.ax) [y] (yN V.ax) [o]:=by rw[P];exact X
  have g3':o.g=eM (aO (nI i)) (Y i) (aI bs k) b:=by rw[P];simp only[YB.g,eM,M5];rw[<-yg];rfl
  have X:=aZ f.ok (eH.enc o) 0;have p:=f.trans X;have aiy:=J'.grow w p aj;have P:bj eH (aM M (eH.enc o) 0) (c6 (Z ⟨M.ax,0,K⟩) 1 1) [o]:=dx (bY _ _ _);have r:(aM M (eH.enc o) 0).ax=M.ax+1:=Q;have x:=f.ax;have u:Y ys=n:=by have:=congrArg dk S;simp at this;omega
  obtain⟨x,h8,x,u,d,r⟩:=fI (bytes:=96) X.ok (z:=[c6 K 0 0,c6 K 0 0,dC ef 0,dd b9,dC ef 0,c6 K 0 0]) rfl aiy P J ai J;obtain⟨B8,rfl⟩:=bx.Fj u;rw[e3] at x;refine df (ak x) ?_;have x:¬bD B2.v G:=λe=>aw (J'.of e)
  have P:=d.get X.ok (X.get f.ok q) x;simp[P,z,b6,wn];have x:=aX (off:=3) (vs:=[B8.v]) d.ok P;simp at x;have P:=s.w.at (i:=0) rfl;have q:∀l c,o.loc l=Z c->V.ax<=c/\c<M.ax:=λl c e=>⟨(s.s c ⟨Z (0,l),e⟩).elim (N c) J,P.lt f.ok e⟩;have N:=(P.cr f.ok X).go X.ok d (λc l H e=>by have:=q l c e;have:=(du J').lt w (dV (A:=B2) H);omega);have f:=W.push xi (m:=M.ax) w (p.cr.trans d) (λc H=>fc (dV H)) ln (du u) N ((s.x x4).r (i:=0) Q) q (λc e=>aw (r c (jt (du u) e)));refine⟨Y i-(n+1),J,n+1,B8,ys++[o],Q,Ui,av b1,av b2,av b4,av z,ag,((g.trans p.cr).trans' d aj (λc H e=>aw (J'.of e))).trans x,⟨h8.clock,by rw[bc];rfl⟩,u.grow d.ok x (λc H e=>aw (r c H)),f.1.go d.ok x (λc l e z=>aw (f.1.new l c z)),f.2,by rw[aW,S,mw,agh A U,<-g3'];rfl⟩
 .have:n=Y i:=J
  subst this;rw[nz J] at S;simp at j;rw[L] at j;simp[j,v];exact C _ _ B2 ys (av q4) (av q5) g ⟨sG2,hG2⟩ W xi S
def E6(T:cy h0)(N:az aV h0 h){name:ByteArray}{p r:Int}{v:List Nat}(U:mm h0 B bs)(j:EB bs)(x:∀b∈bs,Hb b)(d:bj encI h0 O.v (nI v))(m:Y v<100000)(D:∀k∈v,k<Y bs):aY FF 38 [eU ⟨aC name p r B⟩,O.v] h (js name p r (bu bs v) h):=by
 have i:=N.ok;have H:¬h.ax=h.ax+1:=J
 have I:¬h.ax=h.ax+1+1:=J
 have C:¬h.ax+1=h.ax+1+1:=J
 refine aY.of Ef ?_;unfold vt;simp[aC,H,I,C,bg];refine aN.cut (λh1=>az aV h h1/\(c_ h1 h.ax (aC name p r B))/\(c_ h1 (h.ax+1) [eT ⟨⟨[]⟩⟩,dC ef 0,dC ef 0,c6 K 0 0])/\(c_ h1 (h.ax+1+1) (aC name p r cU))/\h.ax+3<=h1.ax) ?_ ?_;refine⟨(((az.refl i).new _ _).new _ _).var _ _,⟨0,by simp[H,I,C,aC]⟩,⟨0,by simp[H,I,C]⟩,⟨h.clock,by simp[bg,aC,cU]⟩,ag⟩;rintro h1⟨t,⟨E,l⟩,⟨v,X⟩,⟨g,z⟩,A⟩;have l0:=N.ax;refine UB T t.ok (F:=h.ax) (R:=h.ax+1) (G:=h.ax+1+1) (λA=>(N.trans t).trans' A aj (λc V e=>J)) U j x d m D J l J z J ag ag ag ag ag ?_;intro T A a ys d W o ⟨A,z⟩ F xi mp;have G:=o.get t.ok X J;simp[aC] at z;simp[d,W,z,G];have w:=aX (off:=0) (vs:=[eT name,dC ef p,dC ef r,a.v]) o.ok G;simp at w;exact⟨(t.trans' o aj (λc V e=>J)).trans' w aj (λc V e=>J),a,ys,by simp[aC],(F.go o.ok w (λc l e z=>aw (F.new l c z))).cX J,xi,mp⟩
structure RN(h0 h1:aB)(n0:Nat)(B:SV)(ys:List YB)(L:SV)(xs:List Int)(i:Nat)(y:YB)(X:Nat):Prop where
 cS:cy h0
 g:az aV h0 h1
 l0:h0.ax<=n0
 hn:n0<=h1.ax
 hL:bj encI h0 L.v xs
 xl:Y xs<1000000
 W:FZ h1 n0 B ys
 xi:xk B ys
 hy:ys[i]?=Z y
 hX:c_ h1 X (eH.enc y)
 oX:¬cm B ys X
section
variable{h0 h1 V:aB}{n0:Nat}{B:SV}{ys f:List YB}{L:SV}{xs:List Int}{i:Nat}{y d:YB}{X:Nat}
def RN.g0(r:RN h0 h1 n0 B ys L xs i y X)(T:cM h1 V n0 B ys B f):az aV h0 V:=r.g.trans' T.g aj (λc o ⟨l,e⟩=>by have:=r.W.new l c e;have:=r.l0;omega)
def RN.ax(r:RN h0 h1 n0 B ys L xs i y X)(T:cM h1 V n0 B ys B (ys.set i d))(e:eH.enc d=eH.enc y):RN h0 V n0 B (ys.set i d) L xs i d X:=by have⟨s,o⟩:=r.hX;have w:=r.g.ok.wf _ _ o;have t:=(cR.mp r.hy).1;exact⟨r.cS,r.g0 T,r.l0,by have:=r.hn;have:=T.g.ax;omega,r.hL,r.xl,T.w,T.x r.xi,by rw[fq,bH Q,bH t],⟨s,by rw[e];exact T.g.get r.g.ok o r.oX⟩,λh=>(T.s _ h).elim r.oX J⟩
def axx(h1:aB)(n0:Nat)(B:SV)(ys:List YB)(i j:Nat)(y:YB)(q:GP×SV)(f:Bool×Int->Bool×Int)(e:Env)(m:Nat)(a:Env)(V:aB):Prop:=
 ∃(k:Nat) (row:List (Bool×Int)),m=Y q.1.row-k/\k<=Y q.1.row/\aH ([9]++(aA 30).map (· +46)) e a/\bz a 9 k/\cM h1 V n0 B ys B (ys.set i {y with ps:=y.ps.set j (⟨q.1.dst,row⟩,q.2)})/\row=(q.1.row.take k).map f++q.1.row.drop k
def ie{xs:List H}{x:H}(h:xs[i]?=Z x):xs.set i x=xs:=by have⟨o,e⟩:=cR.mp h;rw[<-e];exact List.set_getElem_self o
def zd{f:H->H}{l row:List H}{v:H}(t:l[k]?=Z v)(e:row=(l.take k).map f++l.drop k):row[k]?=Z v/\row.set k (f v)=(l.take (k+1)).map f++l.drop (k+1):=by have o:=(cR.mp t).1;subst e;refine⟨by rw[Hv (by simp;omega)];simp[lA (uo o),t],?_⟩;rw[mw,t,Ds _ _ (by simp;omega)];simp[lA (uo o)];rw[fj o,w9]
def akc(r:RN h0 h1 n0 B ys L xs i y X){q:GP×SV}(N:y.ps[j]?=Z q)(F:Y q.1.row<1000000)(x:bX e 1=L.v)(M:cg e 7 X)(S:bz e 8 j)(l:bz e 9 0)(C:∀U V,aH ([9]++(aA 30).map (· +46)) e U->cM h1 V n0 B ys B (ys.set i {y with ps:=y.ps.set j (⟨q.1.dst,q.1.row.map (bq xs)⟩,q.2)})->T (.exit 4) U V):aN FF (.loop jD) e h1 T:=by
 have O:=r.g.ok;have s:=(cR.mp r.hy).1;have d:=(cR.mp N).1;have n:L.l=Y xs:=by have⟨a,t,e,_⟩:=id r.hL;simp at e;exact e.2.1
 have h:y.ps.set j ((⟨q.1.dst,q.1.row⟩:GP),q.2)=y.ps:=ie (x:=q) N;have b:ys.set i {y with ps:=y.ps.set j ((⟨q.1.dst,q.1.row⟩:GP),q.2)} =ys:=by rw[h];exact ie r.hy
 refine aN.loop (axx h1 n0 B ys i j y q (bq xs) e) ?_ (n:=Y q.1.row) ⟨0,q.1.row,Q,J,aH.refl _ _,l,by rw[b];exact .refl r.W O,ag⟩;rintro m U V⟨k,row,rfl,f,h,F,b,N⟩;have o:=b.g.ok;have g0:=r.g0 b;have z:=h.at (t:=1) x;have x:=h.at (t:=7) M;have q8:=h.at (t:=8) S;have⟨g,t⟩:=r.hX;have D:=b.g.get O t r.oX;have M:(ys.set i {y with ps:=y.ps.set j (⟨q.1.dst,row⟩,q.2)})[i]?=Z {y with ps:=y.ps.set j (⟨q.1.dst,row⟩,q.2)} :=by rw[fq,bH Q,bH s]
 have P:=b.w.at M;have I:(y.ps.set j ((⟨q.1.dst,row⟩:GP),q.2))[j]?=Z (⟨q.1.dst,row⟩,q.2):=by rw[fq,bH Q,bH d]
 have S:y.P.l=Y y.ps:=by have:=P.P.len;simpa using this
 have A:eo cH V q.2 row:=P.ps _ (cK I);have pD:=A.len;have Um:Y row=Y q.1.row:=by rw[N];simp;omega
 obtain⟨O,t,f,l,s,f,_,_,U,_⟩:=P.P.el I;have t:y.P.a=Z ⟨O,0,K⟩:=s;have p:=U 1 1 ai;simp[-ay] at p;simp at D;rw[t,S] at D;have oX:=o.bU D;have Np:=o.bU f;have Sh:=o.st _ _ _ _ _ D;have stP:=o.st _ _ _ _ _ f;unfold jD;by_cases h:k<Y q.1.row
 .have wk:=bZ ((k:Int)+1) J J;have⟨v,t⟩:=aR q.1.row k h;have⟨U,Lm⟩:=zd (f:=bq xs) t N;obtain⟨S,cA,l,t,t,W,hjA,dM,hrA,eI⟩:=A.el U;have U:=hrA 0 2 ai;simp[-ay] at U;rw[t,pD,Um] at p;have oA':=o.bU W;simp at z;rw[n] at z;simp[z,x,q8,F,D,aD D,d,h,p,U,oX,Np,oA',aK,-ay];have w:=bk o;have U:=b.cr w;have XC:=w.get o D;have U:=w.get o f;have f:=w.get o W;have ct:(tick V).clock=V.clock+1:=Q;generalize tick V=h2 at*;refine ck.call (V:=λu H=>az aV h2 H/\u=eU ⟨[dd (bq xs v).1,dC ef (bq xs v).2]⟩) (by simpa [n] using v7 w.ok (r.hL.cr r.cS (g0.trans w)) r.xl v) ?_;rintro _ H⟨E,rfl⟩;have n:=E.get w.ok XC;have hP3:=E.get w.ok U;have U:=E.get w.ok f;have f:=dM 0 2 ai;simp at f;simp[n,hP3,Sh,stP,d,h,U,f,F,wk];have n:=aX (off:=k*2) (vs:=cH.enc (bq xs v)) E.ok U;have U:=eI (bq xs v) 0 (cH.enc (bq xs v)) ag (by simp[bg]) (put H S (k*2) cA (cH.enc (bq xs v)) l) ⟨H.clock,ag⟩;have eAP:S≠O:=λe=>by have:=(b.w.Gj M .P (.R j) O (cj s) (by rw[YB.jM I,<-e];exact cj t));cases this
  simp only[BO] at n U;have G:=w.trans E;have f:eo iE (put H S (k*2) cA [dd (bq xs v).1,dC ef (bq xs v).2] l) y.P ((y.ps.set j ((⟨q.1.dst,row⟩:GP),q.2)).set j (⟨q.1.dst,row.set k (bq xs v)⟩,q.2)):=((P.P.cr o G).go E.ok n λc l e=>by rw[cj s] at e;cases e;exact eAP l.symm).aeX (by rw[wN,dr,dr];rfl)
  have S:=b.row (j:=j) r.hn M I (p':=((⟨q.1.dst,row.set k (bq xs v)⟩:GP),q.2)) (G.cr.trans (n.cX λc _ e=>fc ⟨.R j,ft Q,by rw[YB.jM I,e];exact cj t⟩)) f U (λc e=>fc e);rw[wN,wN] at S;refine⟨Y q.1.row-(k+1),J,k+1,row.set k (bq xs v),Q,h,?_,ag,S,Lm⟩
  exact au
 .have:k=Y q.1.row:=J
  subst this;rw[mI,cG,ye] at N;rw[pD,Um] at p;simp[z,x,q8,F,D,aD D,d,p,-ay];refine C _ _ ?_ (by rw[<-N];exact b)
  exact au
end
section
variable{h0 h1 V:aB}{n0:Nat}{B:SV}{ys d:List YB}{L:SV}{xs:List Int}{i:Nat}{y f:YB}{X:Nat}
def axw(h1:aB)(n0:Nat)(B:SV)(ys:List YB)(i j:Nat)(y:YB)(q:GI×SV)(f:Bool×Int->Bool×Int)(e:Env)(m:Nat)(a:Env)(V:aB):Prop:=
 ∃(k:Nat) (row:List (Bool×Int)),m=Y q.1.args-k/\k<=Y q.1.args/\aH ([11]++(aA 30).map (· +109)) e a/\bz a 11 k/\cM h1 V n0 B ys B (ys.set i { y with ls:=y.ls.set j ({q.1 with args:=row},q.2) })/\row=(q.1.args.take k).map f++q.1.args.drop k
def ag_(r:RN h0 h1 n0 B ys L xs i y X)(N:y.ls[j]?=Z q)(F:Y q.1.args<1000000)(x:bX e 1=L.v)(M:cg e 7 X)(S:bz e 10 j)(l:bz e 11 0)(C:∀U V,aH ([11]++(aA 30).map (· +109)) e U->cM h1 V n0 B ys B (ys.set i { y with ls:=y.ls.set j ({q.1 with args:=q.1.args.map (bq xs)},q.2) })->T (.exit 8) U V):aN FF (.loop jB) e h1 T:=by
 have O:=r.g.ok;have s:=(cR.mp r.hy).1;have d:=(cR.mp N).1;have n:L.l=Y xs:=by have⟨a,t,e,_⟩:=id r.hL;simp at e;exact e.2.1
 have h:y.ls.set j (({q.1 with args:=q.1.args} :GI),q.2)=y.ls:=ie (x:=q) N;have b:ys.set i { y with ls:=y.ls.set j (({q.1 with args:=q.1.args} :GI),q.2) } =ys:=by rw[h];exact ie r.hy
 refine aN.loop (axw h1 n0 B ys i j y q (bq xs) e) ?_ (n:=Y q.1.args) ⟨0,q.1.args,Q,J,aH.refl _ _,l,by rw[b];exact .refl r.W O,ag⟩;rintro m U V⟨k,row,rfl,f,h,F,b,N⟩;have o:=b.g.ok;have g0:=r.g0 b;have z:=h.at (t:=1) x;have x:=h.at (t:=7) M;have q8:=h.at (t:=10) S;have⟨g,t⟩:=r.hX;have D:=b.g.get O t r.oX;have M:(ys.set i { y with ls:=y.ls.set j ({q.1 with args:=row},q.2) })[i]?=Z { y with ls:=y.ls.set j ({q.1 with args:=row},q.2) } :=by rw[fq,bH Q,bH s]
 have P:=b.w.at M;have I:(y.ls.set j (({q.1 with args:=row} :GI),q.2))[j]?=Z ({q.1 with args:=row},q.2):=by rw[fq,bH Q,bH d]
 have S:y.L.l=Y y.ls:=by have:=P.L.len;simpa using this
 have A:eo cH V q.2 row:=P.ls _ (cK I);have pD:=A.len;have Um:Y row=Y q.1.args:=by rw[N];simp;omega
 obtain⟨O,t,f,l,s,f,_,_,U,_⟩:=P.L.el I;have t:y.L.a=Z ⟨O,0,K⟩:=s;have p:=U 7 1 ai;simp[-ay] at p;simp at D;rw[t,S] at D;have oX:=o.bU D;have Np:=o.bU f;have Sh:=o.st _ _ _ _ _ D;have stP:=o.st _ _ _ _ _ f;unfold jB;by_cases h:k<Y q.1.args
 .have wk:=bZ ((k:Int)+1) J J;have⟨v,t⟩:=aR q.1.args k h;have⟨U,Lm⟩:=zd (f:=bq xs) t N;obtain⟨S,cA,l,t,t,W,hjA,dM,hrA,eI⟩:=A.el U;have U:=hrA 0 2 ai;simp[-ay] at U;rw[t,pD,Um] at p;have oA':=o.bU W;simp at z;rw[n] at z;simp[z,x,q8,F,D,aD D,d,h,p,U,oX,Np,oA',aK,-ay];have w:=bk o;have U:=b.cr w;have XC:=w.get o D;have U:=w.get o f;have f:=w.get o W;have ct:(tick V).clock=V.clock+1:=Q;generalize tick V=h2 at*;refine ck.call (V:=λu H=>az aV h2 H/\u=eU ⟨[dd (bq xs v).1,dC ef (bq xs v).2]⟩) (by simpa [n] using v7 w.ok (r.hL.cr r.cS (g0.trans w)) r.xl v) ?_;rintro _ H⟨E,rfl⟩;have n:=E.get w.ok XC;have hP3:=E.get w.ok U;have U:=E.get w.ok f;have f:=dM 0 2 ai;simp at f;simp[n,hP3,Sh,stP,d,h,U,f,F,wk];have n:=aX (off:=k*2) (vs:=cH.enc (bq xs v)) E.ok U;have U:=eI (bq xs v) 0 (cH.enc (bq xs v)) ag (by simp[bg]) (put H S (k*2) cA (cH.enc (bq xs v)) l) ⟨H.clock,ag⟩;have eAP:S≠O:=λe=>by have:=(b.w.Gj M .L (.X j) O (cj s) (by rw[YB.pW I,<-e];exact cj t));cases this
  simp only[BO] at n U;have G:=w.trans E;have f:eo kh (put H S (k*2) cA [dd (bq xs v).1,dC ef (bq xs v).2] l) y.L ((y.ls.set j (({q.1 with args:=row} :GI),q.2)).set j ({q.1 with args:=row.set k (bq xs v)},q.2)):=((P.L.cr o G).go E.ok n λc l e=>by rw[cj s] at e;cases e;exact eAP l.symm).aeX (by rw[wN,dr,dr];rfl)
  have S:=b.ins (j:=j) (b.x r.xi) r.hn M I (p':=(({q.1 with args:=row.set k (bq xs v)} :GI),q.2)) (G.cr.trans (n.cX λc _ e=>fc ⟨.X j,ft Q,by rw[YB.pW I,e];exact cj t⟩)) f U (λc e=>fc e);rw[wN,wN] at S;refine⟨Y q.1.args-(k+1),J,k+1,row.set k (bq xs v),Q,h,?_,ag,S,Lm⟩
  exact au
 .have:k=Y q.1.args:=J
  subst this;rw[mI,cG,ye] at N;rw[pD,Um] at p;simp[z,x,q8,F,D,aD D,d,p,-ay];refine C _ _ ?_ (by rw[<-N];exact b)
  exact au
end
section
variable{h0 h1 V:aB}{n0:Nat}{B:SV}{ys d:List YB}{L:SV}{xs:List Int}{i:Nat}{y f:YB}{X:Nat}
def RrP(h1:aB)(n0:Nat)(B:SV)(ys:List YB)(xs:List Int)(i:Nat)(y:YB)(e:Env)(m:Nat)(a:Env)(V:aB):Prop:=
 ∃(j:Nat) (o:List (GP×SV)),m=Y y.ps-j/\j<=Y y.ps/\aH ([8,9]++(aA 52).map (· +26)) e a/\bz a 8 j/\cM h1 V n0 B ys B (ys.set i {y with ps:=o})/\o=(y.ps.take j).map (λq=>(Du xs q.1,q.2))++y.ps.drop j
def adq(r:RN h0 h1 n0 B ys L xs i y X)(U:Y y.ps<1000000)(w_:∀q∈y.ps,Y q.1.row<1000000)(x:bX e 1=L.v)(N:cg e 7 X)(h:bz e 8 0)(C:∀k V,aH ([8,9]++(aA 52).map (· +26)) e k->cM h1 V n0 B ys B (ys.set i {y with ps:=y.ps.map λq=>(Du xs q.1,q.2)})->T (.exit 2) k V):aN FF (.loop jE) e h1 T:=by
 have z:=r.g.ok;have s:=(cR.mp r.hy).1;have S:L.l=Y xs:=by have⟨a,t,e,_⟩:=id r.hL;simp at e;exact e.2.1
 have b:ys.set i {y with ps:=y.ps} =ys:=ie r.hy;refine aN.loop (RrP h1 n0 B ys xs i y e) ?_ (n:=Y y.ps) ⟨0,y.ps,Q,J,aH.refl _ _,h,by rw[b];exact .refl r.W z,ag⟩;rintro m k V⟨j,G,rfl,v,M,W,A,b⟩;have D:=A.g.ok;have o:=r.ax A rfl;have z:=M.at (t:=1) x;have h:=M.at (t:=7) N;have⟨g,w⟩:=o.hX;have P:=o.W.at o.hy;have F:Y G=Y y.ps:=by rw[b];simp;omega
 have s:y.P.l=Y y.ps:=by have:=P.P.len;rw[<-F];exact this
 simp at w;rw[s] at w;unfold jE;by_cases I:j<Y y.ps
 .have s:=bZ ((j:Int)+1) J J;have⟨q,N⟩:=aR y.ps j I;have⟨H,Lm⟩:=zd (f:=λq:GP×SV=>(Du xs q.1,q.2)) N b;obtain⟨v,k,p,l,d,l,_,n,U,M⟩:=P.P.el H;have O:y.P.a=Z ⟨v,0,K⟩:=d;have f:=U 0 1 ai;simp[-ay] at f;rw[O] at w;have x:=D.bU w;have t:=D.bU l;have O:=D.st _ _ _ _ _ w;simp at z;rw[S] at z;simp[z,h,W,w,aD w,I,f,x,t,aK,-ay];have E:=bk D;have f:=E.get D w;have F:=E.get D l;have x:(tick V).clock=V.clock+1:=Q;generalize tick V=h2 at*;refine ck.call (V:=λu x=>x=h2/\u=dC ef (aO xs q.1.dst)) (by simpa [S] using pf (r.hL.cr r.cS (o.g.trans E)) r.xl q.1.dst) ?_;rintro _ x⟨r,rfl⟩;rw[r];have t:=n 0 1 ai;simp at t;simp[f,O,I,F,t];have n:=aX (off:=j*2) (vs:=[dC ef (aO xs q.1.dst)]) E.ok F;have F:=M ((⟨aO xs q.1.dst,q.1.row⟩:GP),q.2) 0 [dC ef (aO xs q.1.dst)] ag (by simp[bg]) (put h2 v (j*2) k [dC ef (aO xs q.1.dst)] p) ⟨h2.clock,ag⟩;have l:=((P.ps q (cK H)).cr D E).go E.ok n (λc M e=>by have:=o.W.Gj o.hy .P (.R j) c (by rw[M];exact cj d) (by rw[YB.jM H];exact e);cases this)
  have x:=(cM.refl o.W D).row (j:=j) o.hn o.hy H (p':=((⟨aO xs q.1.dst,q.1.row⟩:GP),q.2)) (E.cr.trans (n.cX λc _ e=>fc ⟨.P,fc Q,by rw[e];exact cj d⟩)) F l (λc e=>fc e);generalize put h2 v _ _ _ _=h7 at*;have n:=o.ax x rfl;have U:(G.set j ((⟨aO xs q.1.dst,q.1.row⟩:GP),q.2))[j]?=Z (⟨aO xs q.1.dst,q.1.row⟩,q.2):=by rw[fq,bH Q,bH J]
  refine akc n U (w_ q (cK N)) (by simp[z,S]) (av h) (av W) ag ?_;intro n U d t;have k:bX n 8=dC ef j:=d.at (aq W);simp[k,s];have z:=A.trans (x.trans t);rw[wN,wN,wN] at z;refine⟨Y y.ps-(j+1),J,j+1,G.set j (Du xs q.1,q.2),Q,I,?_,ag,z,Lm⟩
  repeat (refine aH.set ?_)
  refine aH.trans ?_ (d.cX)
  exact au
 .have:j=Y y.ps:=J
  subst this;rw[mI,cG,ye] at b;simp[h,W,w,aD w,-ay];refine C _ _ ?_ (by rw[<-b];exact A)
  exact au
end
section
variable{h0 h1 V:aB}{n0:Nat}{B:SV}{ys d:List YB}{L:SV}{xs:List Int}{i:Nat}{y f:YB}{X:Nat}
def RN.put(r:RN h0 h1 n0 B ys L xs i y X)(t:y.ls[j]?=Z q)(w:x'.args=q.1.args){b:Nat}(o:y.L.a=Z ⟨b,0,K⟩)(g:az (· =b) h1 V)(D:eo kh V y.L (y.ls.set j (x',q.2))):cM h1 V n0 B ys B (ys.set i {y with ls:=y.ls.set j (x',q.2)}):=by have P:=r.W.at r.hy;refine(cM.refl r.W r.g.ok).ins (j:=j) r.xi r.hn r.hy t (p':=(x',q.2)) (g.cX λc _ e=>fc ⟨.L,fc Q,by rw[e];exact cj o⟩) D ?_ (λc e=>fc e);rw[w];refine(P.ls q (cK t)).go r.g.ok g (λc C e=>?_);have:=r.W.Gj r.hy .L (.X j) c (by rw[C];exact cj o) (by rw[YB.pW t];exact e);cases this
def RrL(h1:aB)(n0:Nat)(B:SV)(ys:List YB)(xs:List Int)(i:Nat)(y:YB)(e:Env)(m:Nat)(a:Env)(V:aB):Prop:=
 ∃(j:Nat) (o:List (GI×SV)),m=Y y.ls-j/\j<=Y y.ls/\aH ([10,11]++(aA 90).map (· +76)) e a/\bz a 10 j/\cM h1 V n0 B ys B (ys.set i {y with ls:=o})/\o=(y.ls.take j).map (λq=>(qe xs q.1,q.2))++y.ls.drop j
def adp(t:RN h0 h1 n0 B ys L xs i y X)(om:Y y.ls<1000000)(w_:∀q∈y.ls,Y q.1.args<1000000)(f1:bX e 1=L.v)(f7:cg e 7 X)(f8:bz e 10 0)(C:∀e' V,aH ([10,11]++(aA 90).map (· +76)) e e'->cM h1 V n0 B ys B (ys.set i {y with ls:=y.ls.map λq=>(qe xs q.1,q.2)})->T (.exit 6) e' V):aN FF (.loop jC) e h1 T:=by
 have eY:=t.g.ok;have hi:=(cR.mp t.hy).1;have r:L.l=Y xs:=by have⟨a,F,e,_⟩:=id t.hL;simp at e;exact e.2.1
 have e2:ys.set i {y with ls:=y.ls} =ys:=ie t.hy;refine aN.loop (RrL h1 n0 B ys xs i y e) ?_ (n:=Y y.ls) ⟨0,y.ls,Q,J,aH.refl _ _,f8,by rw[e2];exact .refl t.W eY,ag⟩;rintro m e' V⟨j,w,rfl,hj,Kp,F,T',jH⟩;have s:=T'.g.ok;have c:=t.ax T' rfl;have x:=Kp.at (t:=1) f1;have M:=Kp.at (t:=7) f7;have⟨g,b⟩:=c.hX;have P:=c.W.at c.hy;have nJ:Y w=Y y.ls:=by rw[jH];simp;omega
 have fe:y.L.l=Y y.ls:=by have:=P.L.len;rw[<-nJ];exact this
 simp at b;rw[fe] at b;unfold jC;by_cases d:j<Y y.ls
 .have wj:=bZ ((j:Int)+1) J J;have⟨q,hq⟩:=aR y.ls j d;have⟨pE,Lm⟩:=zd (f:=λq:GI×SV=>(qe xs q.1,q.2)) hq jH;have⟨N,cP,oP,sP,gy,sJ,_,dM,Wn,eI⟩:=P.L.el pE;have A:y.L.a=Z ⟨N,0,K⟩:=gy;have rP:=Wn 2 2 ai;simp[-ay] at rP;rw[A] at b;have oX:=s.bU b;have Np:=s.bU sJ;have Sh:=s.st _ _ _ _ _ b;simp at x;rw[r] at x;simp[x,M,F,b,aD b,d,rP,oX,Np,aK,-ay];have l:=bk s;have XC:=l.get s b;have Xw:=l.get s sJ;have ct:(tick V).clock=V.clock+1:=Q;generalize tick V=h2 at*;refine ck.call (V:=λu k=>az aV h2 k/\u=eU ⟨[dd (bq xs q.1.a).1,dC ef (bq xs q.1.a).2]⟩) (by simpa [r] using v7 l.ok (c.hL.cr c.cS (c.g.trans l)) c.xl q.1.a) ?_;rintro _ k⟨g3,rfl⟩;have dZ:=g3.get l.ok XC;have hP3:=g3.get l.ok Xw;have qZ:=dM 2 2 ai;simp at qZ;simp[dZ,Sh,d,hP3,qZ];have g23:=l.trans g3;have g4:=aX (off:=j*8+2) (vs:=cH.enc (bq xs q.1.a)) g3.ok hP3;have hL4:=eI ({q.1 with a:=bq xs q.1.a},q.2) 2 (cH.enc (bq xs q.1.a)) ag (by simp[bg]) (AI.put k N (j*8+2) cP (cH.enc (bq xs q.1.a)) oP) ⟨k.clock,ag⟩;simp only[BO] at g4 hL4;have T4:=c.put pE (x':= {q.1 with a:=bq xs q.1.a}) rfl gy (g23.cr.trans g4) hL4;have c4:(AI.put k N (j*8+2) cP [dd (bq xs q.1.a).1,dC ef (bq xs q.1.a).2] oP).clock=k.clock+1:=Q;rw[<-c4];generalize AI.put k N _ _ _ _=h4 at*;have I:=c.ax T4 rfl;simp only[wN] at T4 I;have v:=I.g.ok;have⟨sX4,p⟩:=I.hX;have hPl4:y.L.l=Y y.ls:=fe;simp at p;rw[A,fe] at p;have hq4:(w.set j (({q.1 with a:=bq xs q.1.a} :GI),q.2))[j]?=Z ({q.1 with a:=bq xs q.1.a},q.2):=by rw[fq,bH Q,bH J]
  have Y4:=I.W.at I.hy;have⟨G,cP4,oP4,sP4,ar6,ajd,_,asS,aAP,atr⟩:=Y4.L.el hq4;have e4:G=N:=by have h:y.L.a=Z ⟨G,0,K⟩:=ar6;rw[A] at h;cases h;rfl
  subst e4;have rP4:=aAP 4 2 ai;simp[-ay] at rP4;have oX4:=v.bU p;have aBP:=v.bU ajd;have aCH:=v.st _ _ _ _ _ p;simp[x,M,F,p,aD p,d,rP4,oX4,aBP,aK,-ay];have n:=bk v;have azv:=n.get v p;have azc:=n.get v ajd;have ct4:(tick h4).clock=h4.clock+1:=Q;generalize tick h4=h5 at*;refine ck.call (V:=λu h6=>az aV h5 h6/\u=eU ⟨[dd (bq xs q.1.b).1,dC ef (bq xs q.1.b).2]⟩) (by simpa [r] using v7 n.ok (I.hL.cr I.cS (I.g.trans n)) I.xl q.1.b) ?_;rintro _ h6⟨g6,rfl⟩;have qC:=g6.get n.ok azv;have OR:=g6.get n.ok azc;have hf4:=asS 4 2 ai;simp at hf4;simp[qC,aCH,d,OR,hf4];have g56:=n.trans g6;have g7:=aX (off:=j*8+4) (vs:=cH.enc (bq xs q.1.b)) g6.ok OR;have hL7:=atr ({q.1 with a:=bq xs q.1.a,b:=bq xs q.1.b},q.2) 4 (cH.enc (bq xs q.1.b)) ag (by simp[bg]) (AI.put h6 G (j*8+4) cP4 (cH.enc (bq xs q.1.b)) oP4) ⟨h6.clock,ag⟩;simp only[BO] at g7 hL7;have T7:=I.put hq4 (x':= {q.1 with a:=bq xs q.1.a,b:=bq xs q.1.b}) rfl ar6 (g56.cr.trans g7) hL7;generalize AI.put h6 G _ _ _ _=h7 at*;have r7:=I.ax T7 rfl;simp only[wN] at T7 r7;have hq7:(w.set j (({q.1 with a:=bq xs q.1.a,b:=bq xs q.1.b} :GI),q.2))[j]?=Z ({q.1 with a:=bq xs q.1.a,b:=bq xs q.1.b},q.2):=by rw[fq,bH Q,bH J]
  refine ag_ r7 hq7 (w_ q (cK hq)) (by simp[x,r]) (av M) (av F) ag ?_;intro U S O T8;have k1:bX U 1=L.v:=O.at (by simp[x,r]);have k7:cg U 7 X:=O.at (aq M);have k10:bX U 10=dC ef j:=O.at (aq F);have r8:=r7.ax T8 rfl;simp only[wN] at T8 r8;have⟨D,H⟩:∃D:GI,D= {q.1 with a:=bq xs q.1.a,b:=bq xs q.1.b,args:=q.1.args.map (bq xs)} :=⟨_,Q⟩;have T8':cM h7 S n0 B (ys.set i { y with ls:=w.set j ({q.1 with a:=bq xs q.1.a,b:=bq xs q.1.b},q.2) }) B (ys.set i {y with ls:=w.set j (D,q.2)}):=by rw[H];exact T8
  have o:RN h0 S n0 B (ys.set i {y with ls:=w.set j (D,q.2)}) L xs i {y with ls:=w.set j (D,q.2)} X:=by rw[H];exact r8
  have TT:=T'.trans (T4.trans (T7.trans T8'));have z:=o.g.ok;have⟨sX8,W⟩:=o.hX;simp at W;rw[A,fe] at W;have hq8:(w.set j (D,q.2))[j]?=Z (D,q.2):=by rw[fq,bH Q,bH J]
  have Y8:=o.W.at o.hy;have⟨bP8,cP8,oP8,sP8,ar7,ar_,_,afG,aAQ,afY⟩:=Y8.L.el hq8;have U:bP8=G:=by have h:y.L.a=Z ⟨bP8,0,K⟩:=ar7;rw[A] at h;cases h;rfl
  subst U;have d8:D.dst=q.1.dst:=by rw[H]
  have rP8:=aAQ 1 1 ai;simp[-ay] at rP8;rw[d8] at rP8;have oX8:=z.bU W;have aua:=z.bU ar_;have aCI:=z.st _ _ _ _ _ W;simp at k1;rw[r] at k1;have fin:∀(e9:Env)(f:aB)(x9:GI),x9=qe xs q.1->aH ([10,11]++(aA 90).map (· +76)) e e9->bz e9 10 ((j+1:Nat):Int)->cM h1 f n0 B ys B (ys.set i {y with ls:=w.set j (x9,q.2)})->∃m,m<Y y.ls-j/\RrL h1 n0 B ys xs i y e m e9 f:=λe9 f x9 hx9 KK kk T9=>⟨Y y.ls-(j+1),J,j+1,w.set j (x9,q.2),Q,d,KK,kk,T9,by rw[hx9];exact Lm⟩;by_cases hd:0<=q.1.dst
  .simp[k1,k7,k10,W,aD W,d,rP8,hd,oX8,aua,aK,-ay];have E:=bk z;have azw:=E.get z W;have asa:=E.get z ar_;have ct8:(tick S).clock=S.clock+1:=Q;generalize tick S=f at*;refine ck.call (V:=λu KS=>KS=f/\u=dC ef (aO xs q.1.dst)) (by simpa [r] using pf (o.hL.cr o.cS (o.g.trans E)) o.xl q.1.dst) ?_;rintro _ KS⟨eh,rfl⟩;rw[eh];have hf8:=afG 1 1 ai;simp at hf8;simp[azw,aCI,d,asa,hf8,k10,wj];have g11:=aX (off:=j*8+1) (vs:=[dC ef (aO xs q.1.dst)]) E.ok asa;have ay3:=afY ({D with dst:=aO xs q.1.dst},q.2) 1 [dC ef (aO xs q.1.dst)] ag (by simp[bg]) (AI.put f bP8 (j*8+1) cP8 [dC ef (aO xs q.1.dst)] oP8) ⟨f.clock,ag⟩;have T11:=o.put hq8 (x':= {D with dst:=aO xs q.1.dst}) rfl ar7 (E.cr.trans g11) ay3;generalize AI.put f bP8 _ _ _ _=h11 at*;simp only[wN] at T11;refine fin _ _ {D with dst:=aO xs q.1.dst} (by rw[H];unfold qe;rw[bH hd]) ?_ ag (TT.trans T11)
   repeat (refine aH.set ?_)
   refine aH.trans ?_ (O.cX)
   exact au
  .simp[k1,k7,k10,W,aD W,d,rP8,hd,oX8,aua,aK,wj,-ay];refine fin _ _ D (by rw[H];unfold qe;rw[bM hd]) ?_ ag TT
   repeat (refine aH.set ?_)
   refine aH.trans ?_ (O.cX)
   exact au
 .have:j=Y y.ls:=J
  subst this;rw[mI,cG,ye] at jH;simp[M,F,b,aD b,-ay];refine C _ _ ?_ (by rw[<-jH];exact T')
  exact au
end
def HK(l:List (Int×(Bool×Int)))(n:Nat):List Nat:=(aA n).filter λb:Nat=>(fw l b).isSome
def aa4(l:List (Int×(Bool×Int)))(b:Nat):Bool×Int:=(fw l b).getD (b9,0)
def filterMap_eq(f:H->Option w)(d:w)(l:List H):l.filterMap f=(l.filter λa=>(f a).isSome).map λa=>(f a).getD d:=by
 induction l with
 |nil=>rfl
 |cons x xs o=>
  rw[List.filterMap_cons,List.filter_cons];rcases h:f x with _|y;simpa using o;simp[o,h]
def MB(l:List (Int×(Bool×Int)))(n:Nat):fZ l n=(HK l n).map (aa4 l):=filterMap_eq _ _ _
def QG{l:List (Int×(Bool×Int))}{b:Int}(h:fw l b=Z v):(b,v)∈l:=by
 unfold fw at h;cases o:l.find? λx=>x.1==b with
 |none=>rw[o] at h;cases h
 |some x=>
  rw[o] at h;cases h;have h1:=Aa o;have t:=lk o;have w:x.1=b:=ak h1
  rw[<-w];exact t
def alS(l:List (Int×(Bool×Int))):Prop:=∀x∈l,∀y∈l,x.1=y.1->x=y
def Xh{l:List (Int×(Bool×Int))}(d:alS l){b:Int}(h:(b,v)∈l):fw l b=Z v:=by
 unfold fw;cases o:l.find? λx=>x.1==b with
 |none=>have:=List.find?_eq_none.1 o _ h;simp at this
 |some x=>
  have h1:=Aa o;have t:=lk o;have:=d x t _ h (ak h1);rw[this];rfl
def rh{l:List (Int×(Bool×Int))}{n b:Nat} :b∈HK l n↔b<n/\∃v,fw l b=Z v:=by unfold HK;rw[EG,QM,nG]
def u5{f:Int->Int}{l:List (Int×(Bool×Int))}{x:Int×(Bool×Int)} :x∈fM f l↔ ∃y∈l,0<=f y.1/\x=(f y.1,y.2):=by unfold fM;rw[wv];constructor;rintro⟨y,o,e⟩;split at e;cases e;exact⟨y,o,by assumption,Q⟩;cases e;rintro⟨y,o,h0,rfl⟩;exact⟨y,o,by rw[bH h0]⟩
def Sn(C:Y row=Y W){a:Int}(w:a∈W):∃v,(a,v)∈W.zip row:=by have⟨i,o⟩:=iF w;have D:=(cR.mp o).1;have⟨v,t⟩:=aR row i;exact⟨v,cK (i:=i) (by rw[fi];exact⟨o,t⟩)⟩
def akz(a:W.Nodup) :alS (W.zip row):=by intro x G y E e;have⟨i,t⟩:=iF G;have⟨j,o⟩:=iF E;have h1:=(fi.1 t);have C:=(fi.1 o);have D:=(cR.mp h1.1).2;have w:=(cR.mp C.1).2;have:i=j:=(List.getElem_inj a).1 (D.trans (e.trans w.symm));subst this;rw[t] at o;cases o;rfl
def UC{f:Int->Int}(b:JW f W N) :alS (fM f (W.zip row)):=by intro x C y w e;obtain⟨x',h1,t,rfl⟩:=u5.1 C;obtain⟨a,o,D,rfl⟩:=u5.1 w;have:=b.inj x'.1 (b8 (a:=x'.1) (b:=x'.2) h1).1 a.1 (b8 (a:=a.1) (b:=a.2) o).1 t e;rw[akz b.nd x' h1 a o this]
structure mL(bs:List GB)(bw:List Nat):Prop where
 o:Ord (Y bs) bw
 z:bw[0]?=Z 0
 cl:∀(k:Nat)(b:GB),k∈bw->bs[k]?=Z b->∀t∈b.to,t.toNat∈bw
section
variable{bs:List GB}{bw:List Nat}
def xM(o:bw[i]?=Z k)(t:bs[k]?=Z b):(bu bs bw)[i]?=Z (eM (aO (nI bw)) (Y bw) (aI bs k) b):=by unfold bu;rw[gu,o,zz,t];rfl
def rM(o:Ord (Y bs) bw){w:GB}(h:(bu bs bw)[i]?=Z w):∃k b,bw[i]?=Z k/\bs[k]?=Z b/\w=eM (aO (nI bw)) (Y bw) (aI bs k) b:=by have⟨k,t⟩:=aR bw i (by have:=(cR.mp h).1;simpa [bu] using this);have⟨b,C⟩:=aR bs k (o.lt k (cK t));rw[xM t C] at h;cases h;exact⟨k,b,t,C,Q⟩
def Ord.pos(o:Ord n bw){i u:Nat}(h:bw[i]?=Z u):aO (nI bw) u=i:=Pw o.nd h
def mL.RK(C:mL bs bw)(E:EB bs)(G:k∈bw)(D:bs[k]?=Z b){t:Int}(w:t∈b.to):∃i u:Nat,t=u/\bw[i]?=Z u/\aO (nI bw) t=i/\1<=i:=by have h1:=E.to b (cK D) t w;obtain⟨u,rfl⟩:∃u:Nat,t=u:=⟨t.toNat,J⟩;have⟨i,o⟩:=iF (C.cl k b G D _ w);simp at o;refine⟨i,u,Q,o,C.o.pos o,?_⟩;rcases La i with h|h;subst h;rw[C.z] at o;cases o;omega;exact h
def mL.ahead(C:mL bs bw)(E:EB bs)(H:bw[i]?=Z k) :(a:Int)∈aI (bu bs bw) i↔ ∃u:Nat,bw[a]?=Z u/\(u:Int)∈aI bs k:=by
 rw[cu];constructor
 .rintro⟨j,e,c,I,G⟩;have:j=a:=J
  subst this;obtain⟨u,b,o,D,rfl⟩:=rM C.o I;refine⟨u,o,cu.2 ⟨u,Q,b,D,?_⟩⟩;have⟨t,w,V⟩:=iT.1 G;obtain⟨c,v,rfl,h1,d,_⟩:=C.RK E (cK o) D w;have:c=i:=J
  subst this;rw[H] at h1;cases h1;exact w
 .rintro⟨u,o,G⟩;have⟨j,e,b,D,w⟩:=cu.1 G;have:j=u:=J
  subst this;exact⟨a,Q,_,xM o D,iT.2 ⟨k,w,C.o.pos H⟩⟩
def mL.key(C:mL bs bw)(k:Int):JW (aO (nI bw)) (aI bs k) (Y bw):=C.o.key rfl λ_ _=>rfl
def mL.keys(C:mL bs bw)(E:EB bs)(c:bw[i]?=Z k)(d:Y row=Y (aI bs k)):aI (bu bs bw) i=(HK (fM (aO (nI bw)) ((aI bs k).zip row)) (Y bw)).map λx:Nat=>(x:Int):=by
 have I:Y (bu bs bw)=Y bw:=by simp[bu]
 have e:∀a:Nat,a<Y bw->((a:Int)∈aI (bu bs bw) i↔ ∃v,fw (fM (aO (nI bw)) ((aI bs k).zip row)) a=Z v):=λa t=>by
  rw[C.ahead E c];constructor;rintro⟨u,W,o⟩;have⟨v,w⟩:=Sn d o;have H:=C.o.pos W;exact⟨v,Xh (UC (C.key k)) (u5.2 ⟨_,w,by show 0<=aO (nI bw) u;omega,by rw[show aO (nI bw) u=(a:Int) from H]⟩)⟩
  .rintro⟨v,w⟩;have⟨y,d,h0,e⟩:=u5.1 (QG w);have o:=(b8 (a:=y.1) (b:=y.2) d).1;have⟨u,G,b,d,_⟩:=cu.1 o;have d:(a:Int)=aO (nI bw) y.1:=congrArg Prod.fst e;rw[G] at h0 d;rcases C.o.place u with⟨j,h1,D,_⟩|⟨_,D⟩
   exact⟨u,by rw[show a=j by omega];exact h1,G▸o⟩;omega
 show jO (bu bs bw) (Y (bu bs bw)) i=_;unfold jO HK;rw[I];congr 1;refine List.filter_congr λa t=>?_;have t:=QM.1 t;have h1:=e a t;rw[cu] at h1;have D:(∃x,(bu bs bw)[a]?=Z x/\(i:Int)∈x.to)↔ ∃v,fw (fM (aO (nI bw)) ((aI bs k).zip row)) a=Z v:=by
  rw[<-h1];constructor;rintro⟨x,h,V⟩;exact⟨a,Q,x,h,V⟩
  .rintro⟨j,e,x,h,V⟩;have:j=a:=J
   subst this;exact⟨x,h,V⟩
 rw[Bool.eq_iff_iff,decide_eq_true_eq,nG];exact D
def mL.eb(C:mL bs bw)(E:EB bs):EB (bu bs bw):=by
 have f:Y (bu bs bw)=Y bw:=by simp[bu]
 have h:=C.o.len;have A:=E.n50;have I:∀w∈bu bs bw,∃(i k:Nat) (b:GB),bw[i]?=Z k/\bs[k]?=Z b/\w=eM (aO (nI bw)) (Y bw) (aI bs k) b:=λw G=>by have⟨i,X⟩:=iF G;have⟨k,b,h1,o,h⟩:=rM C.o X;exact⟨i,k,b,h1,o,h⟩
 refine⟨?_,J,λw G=>?_,λw G p g=>?_,λi w G T m=>?_,λw G=>?_⟩;have:=(cR.mp C.z).1;omega
 .obtain⟨i,k,b,H,D,rfl⟩:=I w G;rcases E.kind b (cK D) with⟨h1,o⟩|⟨h1,t,o⟩|⟨h1,t,u,o,h⟩;exact fc ⟨h1,by simp[eM,o]⟩;exact ft (fc ⟨h1,_,by simp[eM,o];rfl⟩)
  .refine ft (ft ⟨h1,_,_,by simp[eM,o];exact⟨Q,Q⟩,λe=>h ?_⟩);obtain⟨a,x,rfl,z,W,_⟩:=C.RK E (cK H) D (t:=t) (by rw[o];simp);obtain⟨c,y,rfl,p,O,_⟩:=C.RK E (cK H) D (t:=u) (by rw[o];simp);have:a=c:=J
   subst this;rw[z] at p;cases p;rfl
 obtain⟨i,k,b,H,D,rfl⟩:=I w G;obtain⟨t,V,rfl⟩:=iT.1 g;obtain⟨a,x,rfl,z,W,p⟩:=C.RK E (cK H) D V;have:=(cR.mp z).1;omega
 obtain⟨k,b,H,D,rfl⟩:=rM C.o G;obtain⟨p,L,rfl⟩:=iT.1 m;rw[C.keys E H (E.rows k b D p L)];show(fZ _ _).length=_;rw[MB,yd,yd]
 obtain⟨i,k,b,H,D,rfl⟩:=I w G;simpa [eM] using E.pl b (cK D)
end
def EB.Gu(E:EB bs):mL bs (dU bs):=by have⟨o,z⟩:=E.bw;refine⟨o,z,λk b w D t C=>(E.rch _).2 (Edge.N5.step ((E.rch k).1 w) (ts:=b.to) ?_ C)⟩;unfold cx;rw[gu,D];rfl
def af8{r:List (Bool×Int)}{v x:Bool×Int}(h:x∈jR r j v):x∈r\/x=v:=by unfold jR at h;simp only[jL,br] at h;rcases h with(h|h)|h;exact fc (Xp h);exact ft h;exact fc (pv h)
def aeY{r:List (Bool×Int)}{x:Bool×Int}(h:x∈fQ r k):x∈r:=by unfold fQ at h;rcases jL.1 h with h|h;exact Xp h;exact pv h
def agA{a b:Int}{x:Bool×Int}(h:x∈N7 W a b row):x∈row\/x=(b9,0):=by unfold N7 at h;rcases af8 h with h|h;exact fc (aeY h);rcases o:row[(aO W a).toNat]? with _|v;rw[o] at h;exact ft h;rw[o] at h;exact fc (h▸cK o)
structure SM(aF:Nat)(bs:List GB):Prop where
 r:∀b∈bs,ve aF (Ix b)
 p:∀b∈bs,Y b.aP<=100000
 a:∀b∈bs,∀x∈b.list,Y x.args<=100000
def xV.al{a:Nat}(R:xV a bs):SM a bs:=⟨R.r,R.p,R.a⟩
def gK{r:Nat} :ve r (Ix b)↔(∀p∈b.aP,ve r (uL p))/\(∀x∈b.list,ve r (Cw x))/\ve r (mh b.on):=by unfold Ix ve;constructor;intro h;exact⟨λp t r o=>h r (ba _ (a8.2 ⟨p,t,o⟩)),λx w r o=>h r (aT _ (ba _ (a8.2 ⟨x,w,o⟩))),λr o=>h r (aT _ (aT _ o))⟩;rintro⟨h1,C,D⟩ r o;rcases jL.1 o with h|h;have⟨p,t,h⟩:=a8.1 h;exact h1 p t r h;rcases jL.1 h with h|h;have⟨x,w,h⟩:=a8.1 h;exact C x w r h;exact D r h
def dv.aF{a:Nat}{bs:List GB}{b t:Nat}{B T:GB}(c:dv bs b t B T)(R:SM a bs):SM a (cf bs b t B T):=by
 have e:∀(i:Nat)(X:GB),X∈bs->∀p∈(if(i:Int)∈T.to then Dt (aI bs i) t b X else X).aP,ve a (uL p):=λi X w p C=>by
  have h0:=(gK.1 (R.r X w)).1;split at C
  .obtain⟨q,a,rfl⟩:=iT.1 C;have:=h0 q a;unfold uL at this⊢;intro r I;rcases jL.1 I with h|h
   exact this r (ba _ h);obtain⟨v,G,D⟩:=a8.1 h;rcases agA G with G|G;exact this r (aT _ (a8.2 ⟨v,G,D⟩));rw[G] at D;simp[mh] at D
  exact h0 p C
 have a:=cK c.ht;have V:∀P∈cf bs b t B T,∃(i:Nat) (X:GB),bs[i]?=Z X/\P=dI bs b t B T i X:=λP H=>by obtain⟨i,W⟩:=iF H;obtain⟨X,h1,D⟩:=fT W;exact⟨i,X,h1,D⟩
 have d:∀(i:Nat)(X:GB),bs[i]?=Z X->∀x∈(dI bs b t B T i X).list,∃P∈bs,x∈P.list:=λi X w x o=>by unfold dI at o;split at o;simp[tF] at o;split at o;rcases jL.1 o with h|h;exact⟨B,cK c.hb,h⟩;exact⟨T,a,h⟩;refine⟨X,cK w,?_⟩;split at o<;>exact o
 refine⟨λP H=>?_,λP H=>?_,λP H x o=>?_⟩<;>obtain⟨i,X,w,rfl⟩:=V P H;refine gK.2 ⟨λp C=>?_,λx o=>?_,?_⟩;by_cases E:i=t;unfold dI at C;rw[bH E] at C;simp[tF] at C;rw[mf E] at C;exact e i X (cK w) p C;obtain⟨P,h1,D⟩:=d i X w x o;exact(gK.1 (R.r P h1)).2.1 x D;unfold dI;split;intro r I;simp[tF,mh] at I;split;exact(gK.1 (R.r T a)).2.2;split;exact(gK.1 (R.r X (cK w))).2.2;exact(gK.1 (R.r X (cK w))).2.2;have h0:=R.p X (cK w);by_cases E:i=t;unfold dI;rw[bH E];simp[tF];rw[mf E];split;simpa [Dt] using h0;exact h0;obtain⟨P,h1,D⟩:=d i X w x o;exact R.a P h1 x D
def Steps.aF{d:Nat}{a b:List GB}(s:Steps a b)(R:SM d a):SM d b:=by
 induction s with
 |refl=>exact R
 |step _ c o=>exact c.aF o
def Ri(h:∀b∈bs,Y b.list<=k):iH bs<=Y bs*k:=by
 unfold iH;induction bs with
 |nil=>simp
 |cons b bs o=>
  have h1:=h b (iz ..);have w:=o λb t=>h b (vU _ t);simp only[zZ,List.sum_cons,List.length_cons,qB,Nat.one_mul];omega
def xh(p:Nat)(bs:List GB)(a:Nat×List GB):Prop:=∃o,Steps (bu bs (dU bs)) o/\(∀x,wP o x)/\EB o/\a=tM p o
def Zx(I:cy h){name:ByteArray}{p n0 a:Nat}(m:n0<=h.ax)(W:FZ h n0 B ys)(m:xk B ys)(E:EB (ys.map YB.g))(R:xV a (ys.map YB.g))(l:∀b∈ys.map YB.g,Y b.list<=1000)(y:p<=a)(n:a<1000000):aY FF 77 [eU ⟨aC name p a B⟩] h (λv V=>∃L,xh p (ys.map YB.g) L/\zH name p n0 B ys L h v V):=by
 have C:=E.Gu;have L:=E.n50;have L:=C.o.len;have x:=R.kept C.o;have u:=C.eb E;have L:Y (bu (ys.map YB.g) (dU (ys.map YB.g)))=Y (dU (ys.map YB.g)):=by simp[bu]
 have j:iH (bu (ys.map YB.g) (dU (ys.map YB.g)))<=50000:=by refine wV (Ri (k:=1000) λb D=>?_) (by rw[L];exact Gd 1000 (m:=50) J);unfold bu at D;obtain⟨k,j,rfl⟩:=iT.1 D;have⟨X,L⟩:=aR (ys.map YB.g) k (C.o.lt k j);rw[L];exact l X (cK L)
 have j:∀c,h.ax<=c->¬cm B ys c:=λc L h1=>aw (W.j8 I h1)
 refine aY.of Td ?_;unfold Iq;have L:¬h.ax=h.ax+1:=J
 have l:¬h.ax+1=h.ax:=J
 simp[aC,L,l];refine ck.cut (λh1=>az aV h h1/\h1.tr.get h.ax=Z (.ch (aC name p a B) b9 0 0)/\(c_ h1 (h.ax+1) [eT ⟨⟨[]⟩⟩,dC ef 0,dC ef 0,c6 K 0 0])) ?_ ?_;exact⟨(((az.refl I).new _ _).new _ _).tick,by simp[aC,L],⟨0,ag⟩⟩;rintro h1⟨H,l,⟨L,d⟩⟩;have L:=H.ok.wf _ _ d;refine ck.call (V:=λv V=>az aV h1 V/\∃L:SV,v=L.v/\bx encI h1.ax V L.v (wg (ys.map YB.g)).reverse) (by simpa [aC] using EX H.ok (name:=name) (p:=p) (r:=a) (W.cr I H).view E.ends E.n1) ?_;rintro _ g⟨G,L,rfl,L⟩;rw[Rw] at L;have f:=H.trans G;have r:=G.get H.ok l;have s:=G.get H.ok d;have d:=W.cr I f;have l:=G.ax;simp[r];refine ck.call (V:=aeA name p a n0 B ys (bu (ys.map YB.g) (dU (ys.map YB.g))) g) (by simpa [aC] using Ly G.ok (name:=name) (p:=p) (r:=a) d J E (ak C.o) L.sl (λ_ b D h=>by have:=L.of D;have:=W.j8 I h;omega)) ?_;rintro _ l⟨d,g,rfl,w,L⟩;have r:=((cM.refl W I).cr f).trans w;have q:=w.g.get G.ok s (j _ J);have s:=w.g.ax;simp[aC];refine ck.call (V:=aev name p a n0 d g l) (by simpa [aC] using Qo w.g.ok (name:=name) (p:=p) (rg:=a) J w.w (by rw[L];exact u) (by rw[L];omega)) ?_;rintro _ s⟨rfl,t,o,u⟩;have l:=r.trans o.T;have f:=o.S;have r:=o.l;rw[L] at f r;have L:=f.aF x.al;have x:xV a (t.map YB.g):=⟨L.r,L.p,λb D=>by have⟨i,a⟩:=iF D;have:=CG a;omega,L.a⟩
 have a:=o.T.g.ax;have a:¬cm d g (h.ax+1):=λe=>(w.s _ e).elim (j _ J) J;have g:¬cm d t (h.ax+1):=λe=>(o.T.s _ e).elim a J;have L:=o.T.g.get w.g.ok q a;simp[aC];refine ck.call (V:=zH name p n0 d t (tM p (t.map YB.g)) s) (by simpa [aC] using UM o.T.g.ok (name:=name) (p:=p) J o.T.w (l.x m) o.E x y n) ?_;rintro _ n⟨d,m,rfl,a,j⟩;have y:=l.trans a;have l:=a.g.get o.T.g.ok L g;simp[aC,l];have L:=(az.refl a.g.ok).put (S:=(· =h.ax+1)) (off:=0) (vs:=[eK name,aL ef p,aL ef (tM p (t.map YB.g)).1,bo d.a d.l d.c]) ⟨_,l⟩ (ft Q);generalize put n _ _ _ _ _=h6 at L⊢;exact⟨(tM p (t.map YB.g)).1,(tM p (t.map YB.g)).2,⟨t.map YB.g,f,u,o.E,Q⟩,d,m,by simp[aC],y.go L (λc e=>⟨J,λh=>by rw[e] at h;exact(a.s _ h).elim g J⟩),j⟩
section
variable{h0 h V:aB}{n0:Nat}{y y':YB}{d B:SV}{f ys:List YB}{i:Nat}
def cM.del{k:Lo}(j:Lo->Lo)(T:cM h0 h n0 d f B ys)(p:n0<=h0.ax)(w:ys[i]?=Z y)(E:¬k.x)(p:∀a b,j a=j b->a=b)(D:∀l,(j l).x↔l.x)(t:∀l c,y'.loc l=Z c->y.loc (j l)=Z c)(g:az (λc=>y.loc k=Z c\/fy B=Z c) h V)(m:eo eH V B (ys.set i y'))(x:(∀c l,(y.loc k=Z c\/fy B=Z c)->l≠k->y.loc l≠Z c)->BZ V y'):cM h0 V n0 d f B (ys.set i y'):=by
 have n:=T.g.ax;refine T.step g (λc C=>fc (C.elim (λe=>⟨Z (i,k),by rw[cJ w];exact e⟩) λe=>⟨K,e⟩)) (T.w.uY T.g.ok g J w (λc C o G=>?_) m (x λc l C H t=>?_) (λm m a b c h1 n=>?_) λl c e=>fc ⟨j l,t l c e,(D l).1⟩);rcases C with e|e;exact ft ⟨k,T.w.own w e G E⟩;exact fc (T.w.uO K o c e G).symm;rcases C with e|e;exact H (T.w.Gj w k l c e t E).symm;have:=T.w.uO K (Z (i,l)) c e (by rw[cJ w];exact t);cases this
 rcases m (j a) (j b) c (t a c h1) (t b c n) with e|⟨I,W,j⟩;exact fc (p a b e);exact ft ⟨I,(D a).1 W,(D b).1 j⟩
end
section
variable{h0:aB}{aF N F M p d:Nat}{l:List SV}{f:List (List (Bool×Int))}
def Cz{f:H->List w}{xs:List H}{x:H}(o:xs[j]?=Z x):(xs.take (j+1)).flatMap f=(xs.take j).flatMap f++f x:=by rw[mw,o,H2];simp
end
section
variable{f:GF}
def gU.eb(F:gU f):EB f.blocks:=by
 have h1:=F.head.blocks;have a:=F.head.many;have a:∀bs:List GB,bs.map (·.to)=f.blocks.map (·.to)->Y bs=Y f.blocks->(∀(i:Nat)(b:GB),bs[i]?=Z b->∃x,f.blocks[i]?=Z x/\b.kind=x.kind/\b.to=x.to)->(∀(i:Nat)(b:GB),bs[i]?=Z b->∀p∈b.aP,Y p.row=Y (aI bs i))->(∀b∈bs,Y b.aP<100000)->EB bs:=λbs _ d c I W=>by
  have g:∀b∈bs,∃x∈f.blocks,b.kind=x.kind/\b.to=x.to:=λb o=>by have⟨i,h⟩:=iF o;have⟨x,w,e⟩:=c i b h;exact⟨x,cK w,e⟩
  refine⟨J,J,λb o=>?_,λb o t c=>?_,I,W⟩;have⟨x,w,G,D⟩:=g b o;rw[G,D];exact(F.body.ends x w).kind;have⟨x,w,G,D⟩:=g b o;rw[D] at c;have:=(F.body.ends x w).to t c;unfold aks at this;omega
 have E:EB (f.blocks.map λb=> {b with aP:=[]}):=a _ (by simp[gN,p8]) ag (λi b o=>by
  rw[gu] at o;rcases w:f.blocks[i]? with _|x;rw[w] at o;cases o;rw[w] at o;cases o;exact⟨x,Q,Q,Q⟩) (λi b o p H=>by
  obtain⟨x,_,rfl⟩:=iT.1 (cK o);cases H) (λb o=>by
  obtain⟨x,_,rfl⟩:=iT.1 o;exact Nat.zero_lt_succ _)
 refine a f.blocks rfl rfl (λi b o=>⟨b,o,Q,Q⟩) (λi b o p H=>?_) λb o=>aw (jz o)
 have⟨_,l,d,V⟩:=(F.body.Ke i b o).aP p H;have C:=E.ahead (k:=i) (by rw[yd];exact(cR.mp o).1);have G:cx (f.blocks.map λb=> {b with aP:=[]})=cx f.blocks:=by simp[cx,gN,p8]
 have D:aI (f.blocks.map λb=> {b with aP:=[]}) (i:Int)=aI f.blocks i:=pw ag (λi x x' h1 C=>by rw[gu,h1] at C;cases C;rfl) _;rw[G,D,d] at C;cases C;exact V.len
def QF(h:Dy n v):ve n (mh v):=λr o=>by unfold mh at o;split at o;rename_i e;cases br.1 o;exact h e;cases o
def ae9{l:List (Bool×Int)}(h:∀v∈l,Dy n v):ve n (qk l):=λr o=>by have⟨v,t,o⟩:=a8.1 o;exact QF (h v t) r o
def gU.aoG(F:gU f):xV f.aF.toNat f.blocks:=by have p:=F.head.many;refine⟨λb o=>?_,λb o=>aw (jz o),λb o=>aw (jz o),λb o x C=>?_⟩;have I:=af6 F b o;refine gK.2 ⟨λp D r t=>?_,λx C r t=>?_,QF I.on⟩;have⟨h1,_,w⟩:=I.ph p D;rcases jL.1 t with h|h;cases br.1 h;exact h1;exact ae9 w r h;have⟨h1,w,G,_,E⟩:=I.li x C;unfold Cw at t;rcases jL.1 t with h|h;exact QF w r h;rcases jL.1 h with h|h;exact QF G r h;rcases jL.1 h with h|h;exact ae9 E r h;split at h;cases br.1 h;exact⟨by assumption,h1⟩;cases h;have⟨i,H⟩:=iF o;have:=(u3 ((F.body.Ke i b H).list x C)).2;omega
def gU.Jg(F:gU f):∀b∈f.blocks,Hb b:=λb o=>by
 have G:=F.head.many;have:=jz o;have⟨i,t⟩:=iF o;refine⟨J,J,λp w=>?_,λx E=>?_,?_⟩
 have⟨_,l,C,D⟩:=(F.body.Ke i b t).aP p w;have:=D.len;have:=alD F C;omega
 have:=(u3 ((F.body.Ke i b t).list x E)).2;omega;have:=F.eb.two o;omega
end
def LgZ(h:aB)(B:SV)(bs:List GB)(F:Nat)(t:List aa)(m:Nat)(e:Env)(o:aB):Prop:=
 ∃j:Nat,m=Y bs-j/\j<=Y bs/\cg e 1 F/\bz e 3 (dw (bs.take j):Nat)/\dw (bs.take j)<=j*2000000/\bX e 7=B.v/\bz e 8 (Y bs)/\bz e 9 j/\az aV h o
def UE(i:cy h){name:ByteArray}{p r:Int}(A:mm h B bs)(C:aio bs):aY FF 70 [eU ⟨aC name p r B⟩] h (λv V=>az aV h V/\v=dd (jy r bs)):=by
 have o:=ae.len A;have z:=C.1;refine aY.of NA ?_;unfold DE;simp[aC,o];refine aN.cut (λh1=>az aV h h1/\c_ h1 h.ax (aC name p r B)) ?_ ?_
 exact⟨(az.refl i).new _ _,0,by simp[aC,o]⟩;rintro h1⟨w,t,N⟩;refine aN.loop (LgZ h1 B bs h.ax (aC name p r B)) ?_ (n:=Y bs) ⟨0,Q,J,ag,by simp[dw],by simp[dw],av o,ag,ag,.refl w.ok⟩;rintro m e M⟨j,rfl,g,E,G,f,a,H,I,c⟩;have⟨k,D⟩:∃k,k=dw (bs.take j):=⟨_,Q⟩;rw[<-D] at G f;have u:=c.get w.ok N;unfold AF;by_cases W:j<Y bs
 have S:bs[j]?=Z bs[j]:=iK W;have d:=IB W;generalize bs[j]=b at S d;have⟨F,q⟩:=C.2 b d;obtain⟨l,s,n,U,_,_,⟨P,L,T,rfl,z,x,s⟩,y,l⟩:=ae.later i A S;have n:=l M (w.trans c) 0 6 ai;simp[-ay] at n;have X:=ae.len z;have q:=ae.len x;simp at a;rw[U,o] at a;have g:=bZ ((j:Int)+1) J J;have N:=bZ ((Y b.aP:Int)+Y b.list) J J;have d:=bZ ((k:Int)+((Y b.aP:Int)+Y b.list)) J J;have z:az aV M (put (aM M [c6 K 0 0,c6 K 0 0,dC ef 0,dd b9,dC ef 0,c6 K 0 0] 0) M.ax 0 [c6 K 0 0,c6 K 0 0,dC ef 0,dd b9,dC ef 0,c6 K 0 0] [P.v,L.v,dC ef b.kind,dd b.on.1,dC ef b.on.2,T.v] 0):=(az.refl c.ok).var _ _;simp at z;simp[E,G,a,H,I,W,n,X,q,g,N,d,-ay,aJ];rw[X,q] at z;refine⟨Y bs-(j+1),J,j+1,Q,W,av E,by simp[vY S,D],by rw[vY S,<-D];omega,by simp[a,U,o],av H,ag,c.trans z⟩
 .have:j=Y bs:=J
  subst this;rw[mI] at D;subst D;have z:=u;simp[aC] at z;by_cases O:(40:Int)<(Y bs:Int)
  .have x:40<Y bs:=J
   simp[E,G,H,I,z,o,O,jy,x];exact w.trans c
  .by_cases n:(300:Int)<(dw bs:Int)
   .have N:300<dw bs:=J
    simp[E,G,H,I,z,o,O,n,jy,N];exact w.trans c
   .have x:¬40<Y bs:=J
    have N:¬300<dw bs:=J
    simp[E,G,H,I,z,o,O,n,jy,x,N];exact w.trans c
def ZN(M:Nat)(h:aB)(y:XG)(g:GG):Prop:=eo encI h y.I g.init/\∀c,fy y.I=Z c->M<=c
def awK(h0 h:aB)(G F f:SV)(U R1 R2:Nat)(fv:aa)(I:List GG)(m:Nat)(e:Env)(V:aB):Prop:=
 ∃(j:Nat) (ys:List XG),m=Y I-j/\j<=Y I/\bX e 1=fv/\cg e 2 U/\cg e 4 R1/\cg e 5 R2/\bX e 15=G.v/\bz e 16 (Y I)/\bz e 17 j/\az (bD G.v) h V/\eo EC V G ys/\SN ys I/\(∀(i:Nat)(y:XG)(g:GG),i<j->ys[i]?=Z y->I[i]?=Z g->ZN h.ax V y g)/\∀(i:Nat)(y:XG)(g:GG),j<=i->ys[i]?=Z y->I[i]?=Z g->ae nR 1 h0 y.I.v g.init
def NL(d:cy h0)(q:az aV h0 h){G F f:SV}{ys:List XG}(n:dR h U [G.v,F.v] sU)(p:¬bD G.v U)(P:eo EC h G ys)(X:∀b,bD G.v b->h0.ax<=b)(r:SN ys I)(L:∀(i:Nat)(y:XG)(g:GG),ys[i]?=Z y->I[i]?=Z g->ae nR 1 h0 y.I.v g.init)(k:Y I<=10)(Ac:∀g∈I,Y g.init<=1048576)(l:bX e 1=fv)(z:cg e 2 U)(S:cg e 4 R1)(B:cg e 5 R2)(u:bX e 15=G.v)(M:bz e 16 (Y I))(O:bz e 17 0)(C:∀v V k,bX v 1=fv->cg v 2 U->cg v 4 R1->cg v 5 R2->az (bD G.v) h V->eo EC V G k->SN k I->(∀(i:Nat)(y:XG)(g:GG),k[i]?=Z y->I[i]?=Z g->ZN h.ax V y g)->T (.exit 0) v V):aN FF (.loop wH) e h T:=by
 have A:=P.len;refine aN.loop (awK h0 h G F f U R1 R2 fv I) ?_ (n:=Y I) ⟨0,ys,Q,J,l,z,S,B,u,M,O,.refl q.ok,P,r,λi y g h=>J,λi y g _ a b=>L i y g a b⟩;rintro m v V⟨j,l,rfl,L,k,B,q4,q5,z,O,W,g,S,E,hD',hI'⟩;have A:=g.ok;have gg:az aV h0 V:=q.trans' g aj (λx u e=>aw (X x e));have M:=g.get q.ok n p;have r:=M;simp at r;have n:=A.st _ _ _ _ _ M;have oU:=A.bU M;unfold wH;by_cases H:j<Y I
 .have wj:=bZ ((j:Int)+1) J J;have⟨y,L⟩:=aR l j (by rw[E.1];exact H);have⟨N,F⟩:=aR I j H;have M:=hI' j y N (fE _) L F;have⟨b,cs,o,s,u,X,v,dM,cV,eI⟩:=S.el L;have v:=S.len;have n:=cV 0 3 ai;simp[-ay] at n;rw[u,v,E.1] at r;simp at z;rw[u,v,E.1] at z;have nUb:¬U=b:=λe=>p (e▸fK u);simp[B,z,O,W,H,n,-ay,aJ,cw,bh,aD r,oU,aK];refine ck.cut (λt=>az aV V t) (((az.refl A).var _ _).tick) ?_;intro t D;have n:=D.get A r;have p:=D.get A X;refine ck.call (V:=kG encI t N.init) (ak (mo encI (bytes:=8) pS Q ai D.ok ((LR M).cr d (gg.trans D)) (aw (Ac N (cK F))))) ?_;rintro _ d⟨X,w,rfl,M,r,N⟩;have hU4:=X.get D.ok n;have n:=X.get D.ok p;have p:sU<=V.clock+1:=J
  have N:=dM 2 1 ai;simp at N;simp[B,hU4,p,H,n,N,W,wj];have p:=aX (off:=j*3+2) (vs:=[bo w.a w.l w.c]) X.ok n;have n:=eI {y with I:=w} 2 [bo w.a w.l w.c] ag rfl (put d b (j*3+2) cs [bo w.a w.l w.c] o) ⟨d.clock,ag⟩;refine⟨Y I-(j+1),J,j+1,l.set j {y with I:=w},Q,H,av k,av B,av q4,av q5,by simp[z,u,v,E.1],av O,ag,((g.trans D.cr).trans X.cr).trans (p.cX (λx _ e=>e▸fK u)),n,⟨by simp[E.1],λi a c h1 t=>?_⟩,λi a c z h1 t=>?_,λi a c z h1 t=>?_⟩
  rw[fq] at h1;by_cases d:j=i;subst d;rw[bH Q,bH (by rw[E.1];exact H)] at h1;cases h1;exact E.2 j y c L t;rw[bM d] at h1;exact E.2 i a c h1 t
  .have N:b<h.ax:=aw (P.bU q.ok (fK u))
   have P:=g.ax;have u:=D.ax;rw[fq] at h1;by_cases d:j=i
   subst d;rw[bH Q,bH (by rw[E.1];exact H)] at h1;cases h1;rw[F] at t;cases t;exact⟨M.go X.ok p λc P e=>aw (kG.fy M r c e),λc e=>aw (kG.fy M r c e)⟩;rw[bM d] at h1;have⟨q,v⟩:=hD' i a c J h1 t;exact⟨((q.cr A D).cr D.ok X).go X.ok p λc P e=>aw (v c e),v⟩
  rw[fq,bM J] at h1;exact hI' i a c J h1 t
 .have:j=Y I:=J
  subst this;simp[O,W];exact C _ _ l (av k) (av B) (av q4) (av q5) g S E λi y g a b=>hD' i y g (aw ((cR.mp b).1)) a b
abbrev mC:Type:=GF->Nat×List GB->Prop
def Dw(M:Nat)(P:mC)(h:aB)(z:XF)(f:GF):Prop:=
 ∃(n0:Nat) (ys:List YB) (o:Nat),M<=n0/\FZ h n0 z.B ys/\(z.name=f.name/\z.params=f.params/\z.aF=o)/\P f (o,ys.map YB.g)
def PL(P:mC):mC:=λf o=>P f o/\jy o.1 o.2=b9
def Dw.grow{S:Nat->Prop}{P:mC}{z:XF}{f:GF}(d:Dw M P h z f)(t:cy h)(g:az S h V)(w:∀b,S b->b<M\/h.ax<=b):Dw M P V z f:=by have⟨n0,ys,o,C,O,a,b⟩:=d;exact⟨n0,ys,o,C,O.low t g λc D=>(w c D).imp (λe=>J) id,a,b⟩
def awL(h0 o:aB)(P:mC)(F:SV)(U R1 R2:Nat)(fv:aa)(fs:List GF)(m:Nat)(e:Env)(V:aB):Prop:=
 ∃(k:Nat) (a:List XF),m=Y fs-k/\k<=Y fs/\bX e 1=fv/\cg e 2 U/\cg e 4 R1/\cg e 5 R2/\bX e 36=F.v/\bz e 37 (Y fs)/\bz e 38 k/\az (bD F.v) o V/\eo wU V F a/\Y a=Y fs/\(∀(i:Nat)(z:XF)(f:GF),i<k->a[i]?=Z z->fs[i]?=Z f->Dw o.ax (PL P) V z f)/\∀(i:Nat)(z:XF)(f:GF),k<=i->a[i]?=Z z->fs[i]?=Z f->ZW h0 z f
def Tv{h0 D:aB}(cS:cy h0)(r:az aV h0 D){P:mC}{G F:SV}{U R1 R2 sU f s2:Nat}{zs0:List XF}(hU:dR D U [G.v,F.v] sU)(EM:dR D R1 [c6 K 0 0,c6 K 0 0] f)(uA:dR D R2 [dC ef 0,dC ef 0] s2)(n12:¬R1=R2)(nU:¬bD F.v U)(nR1:¬bD F.v R1)(nR2:¬bD F.v R2)(hF:eo wU D F zs0)(d:∀b,bD F.v b->h0.ax<=b)(j:Y zs0=Y fs)(l:∀(i:Nat)(z:XF)(f:GF),zs0[i]?=Z z->fs[i]?=Z f->ZW h0 z f)(y:Y fs<=10)(M:∀f∈fs,gU f)(hP:∀f∈fs,∀N,P f N->aio N.2)(H:∀f∈fs,∀(h:aB)(t n0 S:Nat)(B:SV)(ys:List YB),cy h->az (bD F.v) D h->n0<=h.ax->D.ax<=n0->f.params=t->f.aF=S->t<=S->S<1000000->FZ h n0 B ys->xk B ys->ys.map YB.g=f.blocks->dQ FF fv [eU ⟨aC f.name t S B⟩] h (λv V=>∃N,P f N/\zH f.name t n0 B ys N h v V))(u:bX e 1=fv)(q:cg e 2 U)(A:cg e 4 R1)(S:cg e 5 R2)(p:bX e 36=F.v)(L:bz e 37 (Y fs))(y:bz e 38 0)(bad:∀(X:Env)(V:aB)(a:Nat)(f:GF)(N:Nat×List GB),fs[a]?=Z f->P f N->jy N.1 N.2=cd->(∀(i:Nat)(f:GF),i<a->fs[i]?=Z f->∃N,P f N/\jy N.1 N.2=b9)->cg X 4 R1->cg X 5 R2->az (λb=>bD F.v b\/b=R1\/b=R2) D V->(c_ V R1 [c6 K 0 0,c6 K 0 0])->(c_ V R2 [dC ef 10,dC ef a])->T .ret X V)(EH:∀X V O,cg X 2 U->cg X 4 R1->cg X 5 R2->az (bD F.v) D V->eo wU V F O->Y O=Y fs->(∀(i:Nat)(z:XF)(f:GF),O[i]?=Z z->fs[i]?=Z f->Dw D.ax (PL P) V z f)->T (.exit 2) X V):aN FF (.loop wG) e D T:=by
 have C:=r.ok;refine aN.loop (awL h0 D P F U R1 R2 fv fs) ?_ (n:=Y fs) ⟨0,zs0,Q,J,u,q,A,S,p,L,y,.refl C,hF,j,λi z f h=>J,λi z f _ a b=>l i z f a b⟩;rintro m X V⟨k,O,rfl,S,q1,q2,q4,q5,W,q37,UZ,A,gM,l,hD,hT⟩;have bC:=A.ok;have j:=A.ax;have gg:az aV h0 V:=r.trans' A aj (λx X e=>aw (d x e));have L:=A.get C hU nU;have y:=A.get C EM nR1;have u:=A.get C uA nR2;have yC:=gM.len;unfold wG;by_cases u:k<Y fs
 .have wk:=bZ ((k:Int)+1) J J;have⟨z,hzk⟩:=aR O k;have⟨f,I⟩:=aR fs k u;have⟨r,e2,e3,hBs⟩:=hT k z f (fE _) hzk I;have d:=M f (cK I);have L:=d.head.aF;have L:=d.head.params;have⟨t,hpn⟩:∃n:Nat,f.params=n:=⟨f.params.toNat,J⟩;have⟨S,p⟩:∃n:Nat,f.aF=n:=⟨f.aF.toNat,J⟩;obtain⟨b,L,o,s,y,M,L,L,j,M⟩:=gM.el hzk;have L:=j 0 4 ai;simp[-ay] at L;rw[r,e2,e3,hpn,p] at L;simp at W;rw[y,yC,l] at W;simp[W,q37,UZ,q1,u,L,-ay,aJ];refine bm.cut (λw=>az aV V w/\c_ w V.ax (aC f.name t S z.B)) ?_ ?_
  exact⟨(az.refl bC).var _ _,V.clock,by simp[bg,aC]⟩;rintro w⟨M,g,fh⟩;have L:=gg.trans M;have j:mm w z.B f.blocks:=hBs.mono cS L;have L:=M.ax;have lX:=M.ok.wf _ _ fh;refine bm.call (V:=js f.name t S f.blocks w) (by simpa [aC] using WU M.ok (name:=f.name) (p:=t) (r:=S) j d.Jg (aw d.head.blocks)) ?_;rintro _ d⟨j,L,ys,rfl,O3,X3,M3⟩;have dZ:=j.get M.ok fh;have ago:∀x,x<w.ax->¬cm L ys x:=λx X ⟨l',e⟩=>aw (O3.new l' x e)
  have l3:=j.ax;simp[q1];refine bm.fB (V:=λv V=>∃N,P f N/\zH f.name t w.ax L ys N d v V) (by simpa [q1,aC] using H f (cK I) d t w.ax S L ys j.ok (A.trans (M.trans j).cr) J J hpn p J J O3 X3 M3) ?_;rintro _ L⟨N,hPr,E,y4,rfl,p,M4⟩;have d:=p.g;have G4:az aV V L:=(M.trans j).trans' d aj (λx X e=>ago x J e);have S:=d.get j.ok dZ (ago _ lX);have M:=S;simp[aC] at M;simp[aC,M];refine bm.cut (λS=>az (· =V.ax) L S/\c_ S V.ax [eT f.name,dC ef t,dC ef N.1,c6 E.a E.l E.c]) ?_ ?_
  exact⟨(az.refl d.ok).put ⟨_,M⟩ (ft Q),L.clock,ag⟩;rintro S⟨L,M,j⟩;have O5:=p.w.low d.ok L (λc e=>fc J);have d:az aV V S:=G4.trans' L aj (λx X e=>J);have p:=O5.view;rw[M4] at p;refine bm.call (V:=λv V=>az aV S V/\v=dd (jy N.1 N.2)) (by simpa [aC] using UE L.ok (name:=f.name) (p:=t) (r:=N.1) p (hP f (cK I) N hPr)) ?_;rintro _ X⟨p,rfl⟩;have G6:=d.trans p;have d:az (bD F.v) D X:=A.trans G6.cr;have hU6:=d.get C hU nU;have ajg:=d.get C EM nR1;have ajh:=d.get C uA nR2;have qC:=p.get L.ok j;cases abT:jy N.1 N.2
  .have j:=gM.grow bC G6 aj;obtain⟨M,cs6,o6,M,M,XE,hjA6,afF,ajt,afX⟩:=j.el hzk;rw[y] at M;cases M;have j:=hU6;simp at j;rw[y,yC,l] at j;have M:=afF 0 4 ai;simp at M;simp[q2,j,qC,u,XE,M,UZ,wk];have j:b<D.ax:=hF.bU C (fK y);have M:=aX (off:=k*4) (vs:=[eK f.name,aL ef t,aL ef N.1,bo E.a E.l E.c]) p.ok XE;have j:=afX ⟨f.name,t,N.1,E⟩ 0 [eK f.name,aL ef t,aL ef N.1,bo E.a E.l E.c] ag rfl (put X b (k*4) cs6 [eK f.name,aL ef t,aL ef N.1,bo E.a E.l E.c] o6) ⟨X.clock,ag⟩;have GL7:=d.trans (M.cX (λx _ e=>e▸fK y));generalize put X b (k*4) cs6 _ o6=h7 at*;have hkz:k<Y O:=J
   refine⟨Y fs-(k+1),J,k+1,O.set k ⟨f.name,t,N.1,E⟩,Q,u,av q1,av q2,av q4,av q5,by simp[W,y,yC,l],av q37,ag,GL7,j,av l,λi j q y h1 w=>?_,λi j q y h1 w=>?_⟩
   .rw[fq] at h1;by_cases r:k=i;subst r;rw[bH Q,bH hkz] at h1;cases h1;rw[I] at w;cases w;have u:Dw D.ax (PL P) S ⟨f.name,t,N.1,E⟩ f:=⟨w.ax,y4,N.1,J,O5,⟨Q,hpn.symm,Q⟩,by rw[M4];exact⟨hPr,abT⟩⟩;exact(u.grow L.ok p (λ_ h=>h.elim)).grow p.ok M (λx e=>fc J)
    rw[bM r] at h1;exact((hD i j q J h1 w).grow bC G6 (λ_ h=>h.elim)).grow p.ok M (λx e=>fc J)
   rw[fq,bM J] at h1;exact hT i j q J h1 w
  simp;refine bm.call (ak (kP X p.ok 10 (k:Int))) ?_;rintro _ h7⟨rfl,M⟩;have u:=M.get p.ok ajg;have X:=M.get p.ok ajh;have r:¬R2=R1:=λe=>n12 e.symm;simp[q4,q5,u,X,r];have GL7:az (λb=>bD F.v b\/b=R1\/b=R2) D h7:=(d.cX (λx _ h=>fc h)).trans M.cr;refine bad _ _ k f N I hPr abT (λi q y w=>by have⟨j,d⟩:=aR O i;have⟨_,N,p,_,_,_,F⟩:=hD i j q y d w;exact⟨_,F⟩) (av q4) (av q5) ?_ ⟨h7.clock,by simp[n12]⟩ ⟨h7.clock+1,ag⟩
  exact(GL7.put ⟨_,u⟩ (ft (ft (fc Q)))).put ⟨s2,by simp[r,X]⟩ (ft (ft (ft Q)))
 .have:k=Y fs:=J
  subst this;simp[q37,UZ];exact EH _ _ O (av q2) (av q4) (av q5) A gM l (λi z f a b=>hD i z f (aw ((cR.mp b).1)) a b)
def Ij(P:mC)(fs w:List GF):Prop:=Y w=Y fs/\∀(i:Nat)(f t:GF),fs[i]?=Z f->w[i]?=Z t->∃o,P f o/\t=⟨f.name,f.params,o.1,o.2⟩
def alM(P:mC)(fs:List GF)(k:Nat):Prop:=∃(f:GF) (o:Nat×List GB),fs[k]?=Z f/\P f o/\jy o.1 o.2=cd/\∀(i:Nat)(f:GF),i<k->fs[i]?=Z f->∃o,P f o/\jy o.1 o.2=b9
def uS(M:Nat)(h:aB)(G F:SV)(u:GU):Prop:=∀(S:Nat->Prop)(V:aB),az S h V->(∀c,S c->c<M\/h.ax<=c)->uR V G F u
def uS.go{S:Nat->Prop}{G F:SV}(w:uS M h G F u)(g:az S h V)(D:∀c,S c->c<M\/h.ax<=c):uS M V G F u:=λo C t E=>w (λc=>S c\/o c) C ((g.cX λ_ _ h=>fc h).trans (t.cX λ_ _ h=>ft h)) λc H=>H.elim (D c) λh=>(E c h).imp id λe=>wV g.ax e
def Ii(P:mC)(I:List GG)(fs:List GF)(M:Nat)(V:aB)(o t:SV)(c a:Int):Prop:=
 (∃k:Nat,c=10/\a=k/\o=cU/\t=cU/\alM P fs k)\/(c=0/\a=0/\∃w,uS M V o t ⟨I,w⟩/\Ij (PL P) fs w)
def akA(P:mC)(I:List GG)(fs:List GF)(h:aB)(v:aa)(V:aB):Prop:=
 az aV h V/\∃(o t:SV) (c a:Int),v=.tuple #[eU ⟨[o.v,t.v]⟩,eU ⟨[dC ef c,dC ef a]⟩]/\Ii P I fs h.ax V o t c a
def Pd{P:mC}(W:cy h){F:SV}{j:List XF}(d:eo wU h F j)(p:∀b,bD F.v b->M<=b)(U:Y j=Y fs)(D:∀(i:Nat)(z:XF)(f:GF),j[i]?=Z z->fs[i]?=Z f->Dw M P h z f):∃C,(∀(S:Nat->Prop)(V:aB),az S h V->(∀c,S c->c<M\/h.ax<=c)->ae (fR V) 4 V F.v C)/\Ij P fs C:=by
 have⟨C,T,H⟩:=LH (Q1:=λ(i:Nat) (g:GF)=>∀z f,j[i]?=Z z->fs[i]?=Z f->(∀(S:Nat->Prop)(V:aB),az S h V->(∀c,S c->c<M\/h.ax<=c)->fR V (wU.enc z) g)/\∃o,P f o/\g=⟨f.name,f.params,o.1,o.2⟩) (aA (Y fs)) (λi q=>by have v:i<Y fs:=QM.1 q;have⟨z,G⟩:=aR j i;have⟨f,I⟩:=aR fs i v;have⟨n0,ys,t,A,O,⟨X,s,n⟩,r⟩:=D i z f G I;refine⟨⟨f.name,f.params,t,ys.map YB.g⟩,λA x h1 w=>?_⟩;rw[G] at h1;cases h1;rw[I] at w;cases w;exact⟨λS V g m=>⟨z.B,by simp[X,s,n,aC],(O.low W g λc q=>(m c q).imp (λe=>J) id).view⟩,(t,ys.map YB.g),r,Q⟩);rw[List.length_range] at T;have E:∀(i:Nat)(g:GF),C[i]?=Z g->∃z f,j[i]?=Z z/\fs[i]?=Z f/\(∀(S:Nat->Prop)(V:aB),az S h V->(∀c,S c->c<M\/h.ax<=c)->fR V (wU.enc z) g)/\∃o,P f o/\g=⟨f.name,f.params,o.1,o.2⟩:=by
  intro i g U;have v:i<Y fs:=by rw[<-T];exact(cR.mp U).1
  have⟨z,G⟩:=aR j i;have⟨f,I⟩:=aR fs i v;exact⟨z,f,G,I,H i i g (lN v) U z f G I⟩
 refine⟨C,λS V F m=>(d.grow W F (λb X e=>by have:=p b X;have:=m b e;have:=d.bU W X;omega)).view J (λi z g h1 w=>?_),T,λi f u h1 w=>?_⟩;have⟨A,f,a,b,c,_⟩:=E i g w;rw[h1] at a;cases a;exact c S V F m;have⟨A,x,a,b,_,d⟩:=E i u w;rw[h1] at b;cases b;exact d
def Xd(z:cy h){P:mC}{G F:SV}(j:uR h G F u)(hgl:Y u.globals<=10)(X:∀g∈u.globals,Y g.init<=1048576)(np:Y u.funcs<=10)(fV:∀f∈u.funcs,gU f)(hP:∀f∈u.funcs,∀C,P f C->aio C.2)(H:∀f∈u.funcs,∀(h1:aB)(q n0 s:Nat)(B:SV)(ys:List YB),cy h1->az aV h h1->n0<=h1.ax->h.ax<=n0->f.params=q->f.aF=s->q<=s->s<1000000->FZ h1 n0 B ys->xk B ys->ys.map YB.g=f.blocks->dQ FF fv [eU ⟨aC f.name q s B⟩] h1 (λv V=>∃C,P f C/\zH f.name q n0 B ys C h1 v V)):aY FF 31 [eU ⟨[G.v,F.v]⟩,fv] h (akA P u.globals u.funcs h):=by
 have⟨ys,L,p,r⟩:=arB j.1;have⟨N,U,Q6,hZ⟩:=ary j.2;refine aY.of Qi ?_;unfold FA;have j:¬h.ax=h.ax+1:=J
 have n:¬h.ax=h.ax+1+1:=J
 simp[j,n];refine bm.cut (λh1=>az aV h h1/\(c_ h1 h.ax [G.v,F.v])/\(c_ h1 (h.ax+1) [c6 K 0 0,c6 K 0 0])/\(c_ h1 (h.ax+1+1) [dC ef 0,dC ef 0])) ?_ ?_;exact⟨(((az.refl z).new _ _).new _ _).new _ _,⟨0,by simp[j,n]⟩,⟨0,ag⟩,⟨0,ag⟩⟩;rintro h1⟨j,⟨sU,l⟩,⟨n,T⟩,⟨s2,n⟩⟩;have k:=j.ok.wf _ _ n;refine bm.call (V:=kG EC h1 ys) (ak (mo EC (bytes:=48) mO Q ai j.ok (p.cr z j) J)) ?_;rintro _ p⟨k,m,rfl,S,w,_⟩;have A:=k.get j.ok l;have l:=A;simp at l;have A:=k.get j.ok T;have azh:=k.get j.ok n;have T:=S.len;simp[l];refine aN.cut (λn=>az (· =h.ax) p n/\c_ n h.ax [m.v,F.v]) ?_ ?_
 exact⟨(az.refl k.ok).put ⟨_,l⟩ (ft Q),p.clock,ag⟩;rintro n⟨l,F,M⟩;have F:=k.ax;have F:=j.trans k;have d:az aV h n:=F.trans' l aj (λx n e=>J);have o:∀x,x<h1.ax->¬bD m.v x:=λx n e=>aw (w x e)
 have F:=S.grow k.ok l (λb t e=>aw (w b t));have O:=l.get k.ok A J;have A:=l.get k.ok azh J;refine NL (fv:=fv) (R1:=h.ax+1) (R2:=h.ax+1+1) (f:=cU) z d M (o _ J) F (λb t=>by have:=w b t;have:=j.ax;omega) ⟨L,λi y g a b=>⟨(r i y g a b).1,(r i y g a b).2.1⟩⟩ (λi y g a b=>(r i y g a b).2.2) hgl X ag ag ag ag ag (by simp[T,L]) ag ?_;intro L r L q1 F q4 q5 E L T hD4;have S:az aV h r:=d.trans' E aj (λx n e=>by have:=w x e;have:=j.ax;omega);have d:=E.get l.ok M (o _ J);have azg:=E.get l.ok O (o _ J);have azj:=E.get l.ok A (o _ J);have o:=d;simp at o;simp[F,o];refine bm.call (V:=kG wU r N) (ak (mo wU (bytes:=56) pQ Q ai E.ok (Q6.cr z S) J)) ?_;rintro _ A⟨W,o,rfl,M,k,_⟩;have O:=W.get E.ok d;have d:=O;simp at d;have O:p.ax<=r.ax:=wV l.ax E.ax;have yC:=M.len;have O:=L.cr E.ok W;simp[F,d];refine aN.cut (λp=>az (· =h.ax) A p/\c_ p h.ax [m.v,o.v]) ?_ ?_
 exact⟨(az.refl W.ok).put ⟨_,d⟩ (ft Q),A.clock,ag⟩;rintro p⟨d,A,X⟩;have A:=W.ax;have A:az aV h p:=(S.trans W).trans' d aj (λx n e=>J);have S:az (· =h.ax) r p:=W.cr.trans d;have p:∀x,x<r.ax->¬bD o.v x:=λx n e=>aw (k x e)
 have hF6:=M.grow W.ok d (λb t e=>aw (k b t));have hG6:=O.grow W.ok d (λb t e=>aw (w b t));have O:=S.get E.ok azg J;have M:=S.get E.ok azj J;have S:=j.ax;refine Tv (R1:=h.ax+1) (R2:=h.ax+1+1) (U:=h.ax) (zs0:=N) (fs:=u.funcs) z A X O M J (p _ J) (p _ J) (p _ J) hF6 (λb t=>aw (k b t)) U hZ np fV hP (λf hf h1 q n0 s B j a1 a2 a3 z a5 a6 S z a9 N a11=>H f hf h1 q n0 s B j a1 (A.trans' a2 aj (λx n e=>aw (k x e))) a3 (aw A.ax) a5 a6 S z a9 N a11) (av q1) (av F) (av q4) (av q5) ag (by simp[yC,U]) ag ?_ ?_
 rintro s F a f C N b2 U b4 q z D⟨S,S⟩ ⟨j,j⟩;simp[q,z,S,j];exact⟨A.trans' D aj (λx n e=>by rcases e with e|e|e;have:=k x e;omega;omega;omega),cU,cU,10,a,Q,fc ⟨a,Q,Q,Q,Q,f,C,N,b2,U,b4⟩⟩
 .intro s F s s q z D j hl7 N;have hU7:=D.get d.ok X (p _ J);have U:=D.get d.ok O (p _ J);have S:=D.get d.ok M (p _ J);have p:=hU7;simp at p;have M:∀b,bD m.v b->¬bD o.v b:=λb t h=>by have:=L.bU E.ok t;have:=k b h;omega
  have L:=hG6.grow d.ok D M;simp[s,q,z,p,U,S];have I:=((az.refl D.ok).put (S:=λx=>x=h.ax+1\/x=h.ax+1+1) (off:=0) (vs:=[bo m.a m.l m.c,bo o.a o.l o.c]) ⟨_,U⟩ (ft (fc Q))).put (b:=h.ax+1+1) (off:=0) (cs:=[dC ef 0,dC ef 0]) (o:=0) (vs:=[dC ef 0,dC ef 0]) ⟨s2,av S⟩ (ft (ft Q));have S:=d.ax;generalize put (put F _ _ _ _ _) _ _ _ _ _=h8 at I⊢;have S:∀x,x=h.ax+1\/x=h.ax+1+1->x<h1.ax:=λx e=>J
  have S:=j.grow D.ok I (λb t e=>aw (k b t));have⟨j,F,p⟩:=Pd (P:=PL P) (M:=h1.ax) I.ok S (λb t=>aw (k b t)) hl7 (λi z f a b=>by obtain⟨n0,ys,U,S,S⟩:=(N i z f a b).grow D.ok I (λx e=>fc J);exact⟨n0,ys,U,J,S⟩);have f:=L.grow D.ok I (λb t e=>aw (w b t));refine⟨(A.trans' D aj (λx n e=>aw (k x e))).trans' I aj (λx n e=>J),m,o,0,0,ag,ft ⟨Q,Q,j,λS j o A=>?_,p⟩⟩;have n:∀c,S c->c<h1.ax\/h8.ax<=c:=λc m=>(A c m).imp (λe=>J) id;refine⟨(f.grow I.ok o (λb t e=>by have:=w b t;have:=n b e;have:=f.bU I.ok t;omega)).view T.1.symm (λi y g a b=>?_),F S j o n⟩;have⟨S,s⟩:=hD4 i y g a b;have⟨f,j⟩:=T.2 i y g a b;have T:=l.ax;have l:∀c,fy y.I=Z c->c<r.ax:=λc e=>S.lt E.ok e;have r:=(((S.cr E.ok W).go W.ok d (λc m e=>aw (s c e))).go d.ok D (λc m e=>by have:=k c m;have:=l c e;omega)).go D.ok I (λc m e=>aw (s c e));have q:=r.go I.ok o (λc m e=>by have:=s c e;have:=n c m;have:=r.lt I.ok e;omega);exact⟨y.I,by simp[f,j],q.view Q (λi x y a c=>by rw[a] at c;cases c;rfl)⟩
def DoZ(P:mC)(u:GU)(o C:Int)(h:aB)(v:aa)(V:aB):Prop:=
 az aV h V/\∃(t w:SV) (c a:Int),v=.tuple #[eU ⟨[t.v,w.v]⟩,eU ⟨[dC ef c,dC ef a]⟩]/\((o≠0/\c=o/\a=C/\t=cU/\w=cU)\/(o=0/\C=0/\Dx u/\Ii P u.globals u.funcs h.ax V t w c a))
def Ii.go{S:Nat->Prop}{P:mC}{I:List GG}{fs:List GF}{M:Nat}{h V:aB}{G F:SV}{c a:Int}(w:Ii P I fs M h G F c a)(g:az S h V)(D:∀c,S c->c<M\/h.ax<=c):Ii P I fs M V G F c a:=
 w.imp id λ⟨h1,t,o,E,C⟩=>⟨h1,t,o,E.go g D,C⟩
def Ii.low{P:mC}{M o:Nat}{G F:SV}{c a:Int}(w:Ii P I fs M h G F c a)(l:o<=M):Ii P I fs o h G F c a:=
 w.imp id λ⟨h1,C,t,H,D⟩=>⟨h1,C,t,λS V g E=>H S V g λc F=>(E c F).imp (λe=>J) id,D⟩
def GH(xs:List Int)(y:YB):YB:= {y with ps:=y.ps.map (λq=>(Du xs q.1,q.2)),ls:=y.ls.map (λq=>(qe xs q.1,q.2)),on:=bq xs y.on}
def aoH(xs:List Int)(y:YB):(GH xs y).g=zn xs y.g:=by simp[GH,YB.g,zn,gN,p8]
def RrB(h1:aB)(n0 G R:Nat)(L B:SV)(ys:List YB)(xs:List Int)(name:ByteArray)(p r:Int)(m:Nat)(e:Env)(V:aB):Prop:=
 ∃(i:Nat) (a:List YB),m=Y ys-i/\i<=Y ys/\bX e 1=L.v/\cg e 4 R/\cg e 5 G/\bz e 6 i/\cM h1 V n0 B ys B a/\a=(ys.take i).map (GH xs)++ys.drop i
def Vh(d:cy h0)(F:az aV h0 h1){n0 G R D:Nat}(l0:h0.ax<=n0)(hn:n0<=h1.ax){L B:SV}(hL:bj encI h0 L.v xs)(xl:Y xs<1000000)(W:FZ h1 n0 B ys)(N:xk B ys)(k:∀y∈ys,Hb y.g)(a:Y ys<1000000){p r:Int}(b:dR h1 G (aC name p r B) D)(X:¬cm B ys G)(s:bX e 1=L.v)(l:cg e 4 R)(x:cg e 5 G)(S:bz e 6 0)(C:∀v V,cg v 4 R->cg v 5 G->cM h1 V n0 B ys B (ys.map (GH xs))->T (.exit 0) v V):aN FF (.loop jF) e h1 T:=by
 have f:=F.ok;have dq:=W.A.len;refine aN.loop (RrB h1 n0 G R L B ys xs name p r) ?_ (n:=Y ys) ⟨0,ys,Q,J,s,l,x,S,.refl W f,ag⟩;rintro m v V⟨i,j,rfl,M,v,s,g,U,S,p⟩;have t:=S.g.ok;have r:=f.wf _ _ b;have x:=S.g.get f b X;have n:¬cm B j G:=λe=>(S.s _ e).elim X J;have A:Y j=Y ys:=by rw[p];simp;omega
 simp[aC] at x;rw[dq] at x;unfold jF;by_cases r:i<Y ys
 .have wi:=bZ ((i:Int)+1) J J;have⟨y,A⟩:=aR ys i r;have⟨M,Lm⟩:=zd (f:=GH xs) A p;have z:=k y (cK A);obtain⟨bB,a,a,a,k,l,A,O,O,n⟩:=S.w.A.el M;have P:=O 0 6 ai;simp[-ay] at P;rw[k] at x;simp[v,s,g,U,x,aD x,r,P,aJ,-ay];have n:az aV V (put (aM V [c6 K 0 0,c6 K 0 0,dC ef 0,dd b9,dC ef 0,c6 K 0 0] 0) V.ax 0 [c6 K 0 0,c6 K 0 0,dC ef 0,dd b9,dC ef 0,c6 K 0 0] (eH.enc y) 0):=(az.refl t).var _ _;have a:(put (aM V [c6 K 0 0,c6 K 0 0,dC ef 0,dd b9,dC ef 0,c6 K 0 0] 0) V.ax 0 [c6 K 0 0,c6 K 0 0,dC ef 0,dd b9,dC ef 0,c6 K 0 0] (eH.enc y) 0).tr.get V.ax=Z (.ch (eH.enc y) b9 0 V.clock):=by rw[bc];rfl
  simp only[FY,SV.AK] at n a;generalize put (aM V _ 0) V.ax 0 _ _ 0=h2 at*;have A:=S.cr n;have P:¬cm B j V.ax:=λ⟨l,e⟩=>aw (S.w.lt t e)
  have t:=S.g.ax;have O:RN h0 h2 n0 B j L xs i y V.ax:=⟨d,F.trans' A.g aj (λc d ⟨l,e⟩=>aw (W.new l c e)),l0,aw A.g.ax,hL,xl,A.w,A.x N,M,⟨_,ak a⟩,P⟩;refine adq O (by have:=z.lp;simp[YB.g] at this;omega) (λq P=>aw (z.lr q.1 (QP P))) (av v) ag ag ?_;intro N F H F;have RN3:=O.ax F rfl;simp;have t:bX N 1=L.v:=H.at (av v);have O:=H.at (t:=4) (aq s);have v:=H.at (t:=5) (aq g);have k6:=H.at (t:=6) (aq U);have M:cg N 7 V.ax:=H.at ag;refine adp RN3 (by have:=z.ll;simp[YB.g] at this;show Y y.ls<1000000;omega) (λq P=>aw (z.la q.1 (QP P))) (av t) (av M) ag ?_;intro P h4 I N;have o:=RN3.ax N rfl;simp only[wN] at N o;have p1:bX P 1=L.v:=I.at (av t);have p4:=I.at (t:=4) (aq O);have L:=I.at (t:=5) (aq v);have p6:=I.at (t:=6) (aq k6);have P:=I.at (t:=7) (aq M);have⟨O,v⟩:=o.hX;simp at v;have O:=A.trans (F.trans N);have z:=O.g.get f b X;have N:¬cm B _ G:=λe=>(O.s _ e).elim X J;have b:V.ax<h2.ax:=n.ok.wf _ _ a;have b:=o.oX;simp[aC] at z;rw[dq,k] at z;simp[p1,P,v];refine bm.call (V:=λu t=>az aV h4 t/\u=eU ⟨[dd (bq xs y.on).1,dC ef (bq xs y.on).2]⟩) (ak (v7 o.g.ok (o.hL.cr o.cS o.g) xl y.on)) ?_;rintro _ t⟨F,rfl⟩;have M:=F.get o.g.ok v;have A:=F.get o.g.ok z;have f:¬G=V.ax:=J
  simp[P,M];have N:=aX (off:=3) (vs:=[dd (bq xs y.on).1,dC ef (bq xs y.on).2]) F.ok M;have v:(put t V.ax 3 [c6 y.P.a y.P.l y.P.c,c6 y.L.a y.L.l y.L.c,dC ef y.kind,dd y.on.1,dC ef y.on.2,c6 y.T.a y.T.l y.T.c] [dd (bq xs y.on).1,dC ef (bq xs y.on).2] 0).tr.get V.ax=Z (.ch (eH.enc (GH xs y)) b9 0 t.clock):=by rw[bc];rfl
  simp only[FY,SV.AK] at v;have E:=(O.cr F).go N (λc e=>⟨J,by rw[e];exact b⟩);have z:=N.get F.ok A f;generalize put t V.ax 3 _ _ 0=h6 at*;have X:i<Y (j.set i {y with ps:=y.ps.map (λq=>(Du xs q.1,q.2)),ls:=y.ls.map (λq=>(qe xs q.1,q.2))}):=by simp;omega
  have w:(j.set i {y with ps:=y.ps.map (λq=>(Du xs q.1,q.2)),ls:=y.ls.map (λq=>(qe xs q.1,q.2))})[i]?=Z {y with ps:=y.ps.map (λq=>(Du xs q.1,q.2)),ls:=y.ls.map (λq=>(qe xs q.1,q.2))} :=by rw[fq,bH Q,bH J]
  obtain⟨t,a,t,b,F,b,_,N,_,M⟩:=E.w.A.el w;rw[k] at F;cases F;have n:=N 0 6 ai;simp at n;simp[L,p6,P,z,v,r,b,n,wi];have X:=aX (off:=i*6) (vs:=eH.enc (GH xs y)) E.g.ok b;have P:=M (GH xs y) 0 (eH.enc (GH xs y)) ag (by simp[bg]) (put h6 bB (i*6) a (eH.enc (GH xs y)) t) ⟨h6.clock,ag⟩;simp only[FY,SV.AK] at X P;have z:=E.w.at w;have n:=E.del (k:=.P) (y':=GH xs y) id hn w (λh=>h) (λ_ _ e=>e) (λ_=>Iff.rfl) (λl c e=>e) (X.cX λc _ e=>ft (by rw[e];exact cj k)) P (λno=>by
   have v:BZ _ _:=z.go E.g.ok X λc l d e=>by have:=E.w.uO K (Z (i,l)) c (by rw[d];exact cj k) (by rw[cJ w];exact e);cases this
   exact⟨v.P,v.L,v.T,v.ps,v.ls⟩)
  rw[wN] at n;refine⟨Y ys-(i+1),J,i+1,j.set i (GH xs y),Q,r,av p1,av p4,av L,ag,n,Lm⟩
 .have:i=Y ys:=J
  subst this;rw[mI,cG,ye] at p;simp[g,U,x,aD x,-ay];exact C _ _ (av s) (av g) (by rw[<-p];exact S)
def Oc(g:cy h0)(d:az aV h0 h){name:ByteArray}{p r:Int}{L B:SV}(f:mm h0 B bs)(m:∀b∈bs,Hb b)(a:Y bs<100000)(s:bj encI h0 L.v xs)(u:Y xs<1000000):aY FF 96 [eU ⟨aC name p r B⟩,L.v] h (js name p r (bs.map (zn xs)) h):=by
 have L:=d.ok;have i:¬h.ax=h.ax+1:=J
 refine aY.of AO ?_;unfold qx;simp[aC,i];refine bm.cut (λh1=>az aV h h1/\(c_ h1 (h.ax+1) [eT ⟨⟨[]⟩⟩,dC ef 0,dC ef 0,c6 K 0 0])) ?_ ?_;exact⟨((az.refl L).new _ _).new _ _,⟨0,ag⟩⟩;rintro h1⟨C,⟨L,L⟩⟩;have i:=C.ok.wf _ _ L;refine bm.call (V:=js name p r bs h1) (by simpa [aC] using tw g (d.trans C) (name:=name) (p:=p) (r:=r) f m a) ?_;rintro _ w⟨o,a,ys,rfl,I,i,f⟩;have k:=o.get C.ok L;have nR:¬h.ax+1=w.ax:=aw o.ax
 simp[aC];refine aN.cut (λH=>az aV w H/\H.ax=w.ax+1/\c_ H w.ax (aC name p r a)) ⟨(az.refl o.ok).var _ _,ag,w.clock,by simp[bg,aC]⟩ ?_;rintro H⟨E,L,D,n⟩;have L:=I.cr o.ok E;have l0:=d.ax;have q:=C.ax;have q:=o.ax;have q:=E.get o.ok k;have k:¬cm a ys w.ax:=λ⟨l,e⟩=>aw (I.lt o.ok e)
 have j:¬cm a ys (h.ax+1):=λ⟨l,e⟩=>aw (I.new l _ e)
 refine Vh (G:=w.ax) (R:=h.ax+1) g (((d.trans C).trans o).trans E) (n0:=h1.ax) J J s u L i (λy s=>m y.g (by rw[<-f];exact QP s)) (by have:=congrArg dk f;simp at this;omega) n k ag ag ag ag ?_;intro s m g s t;have L:=t.g.get E.ok n k;have d:=t.g.get E.ok q j;simp[aC] at L;simp[g,s,L,d];have W:=aX (off:=0) (vs:=[eT name,dC ef p,dC ef r,a.v]) t.g.ok d;simp at W;have L:az aV h m:=((C.trans o).trans E).trans' t.g aj (λc m ⟨l,e⟩=>aw (I.new l c e));have d:¬cm a (ys.map (GH xs)) (h.ax+1):=λe=>(t.s _ e).elim j J;exact⟨L.trans' W aj (λc m e=>J),a,ys.map (GH xs),by simp[aC],(t.w.go t.g.ok W λc l e a=>by rw[e] at a;exact d ⟨l,a⟩).cX J,t.x i,by rw[gN,<-f,gN];exact List.map_congr_left λy _=>aoH xs y⟩
structure aeD(p:Nat)(bs:List GB):Prop where
 hp:p<1000
 yl:Y bs<=100
 pl:∀b∈bs,Y b.aP<=300
 ll:∀b∈bs,Y b.list<=300
 al:∀b∈bs,∀x∈b.list,Y x.args<=100
 rl:∀b∈bs,∀q∈b.aP,Y q.row<50000
 l1:∀j,Y (ta (j9 p) (bs.take j))<50000
 l2:∀i b j,bs[i]?=Z b->Y (Dq (AB (ta (j9 p) bs) (bs.take i)) (b.aP.take j))<50000
 l3:Y (Gp p bs)<50000
def Y5(o:cy h){name:ByteArray}{p n0:Nat}{r:Int}(W:FZ h n0 B ys)(M:aeD p (ys.map YB.g)):aY FF 95 [eU ⟨aC name p r B⟩] h (λv V=>az aV h V/\∃L:SV,v=L.v/\bx encI h.ax V L.v (Gp p (ys.map YB.g))):=
 ade o W M.hp (ak M.yl) M.pl M.ll M.al M.rl M.l1 M.l2
def agi{a:List Nat}(o:Ord (Y bs) a)(E:Y bs<50)(c:∀b∈bs,Hb b):∀b∈bu bs a,Hb b:=λb t=>by unfold bu at t;obtain⟨k,D,rfl⟩:=iT.1 t;have⟨X,w⟩:=aR bs k (o.lt k D);have z:=c X (cK w);have G:=o.len;rw[w];refine⟨by simpa [eM] using z.lp,z.ll,λp C=>?_,z.la,by simpa [eM] using z.lt⟩;obtain⟨q,_,rfl⟩:=iT.1 C;have:=HZ (fM (aO (nI a)) ((aI bs k).zip q.row)) (Y a);simp only[nM];omega
def iQ(p:Nat)(bs:List GB):Nat×List GB:=(Y (Gp p (bu bs (dU bs))),(bu bs (dU bs)).map (zn (Gp p (bu bs (dU bs)))))
def Va(f:cy h0)(d:az aV h0 h){name:ByteArray}{p:Nat}{r:Int}(l:mm h0 B bs)(E:EB bs)(i:∀b∈bs,Hb b)(M:aeD p (bu bs (dU bs))):aY FF 41 [eU ⟨aC name p r B⟩] h (js name p (iQ p bs).1 (iQ p bs).2 h):=by
 have m:=d.ok;have L:¬h.ax=h.ax+1:=J
 have q:¬h.ax=h.ax+1+1:=J
 have o:=E.Gu.o;have g:=o.len;have g:=E.n50;have n:Y (bu bs (dU bs))=Y (dU bs):=by simp[bu]
 have n:=agi o g i;refine aY.of C8 ?_;unfold uh;simp[aC,L,aK,bh,dO,-ay];refine ck.cut (λh1=>az aV h h1/\h1.ax=h.ax+3/\h1.tr.get h.ax=Z (.ch (aC name p r B) b9 0 0)/\(c_ h1 (h.ax+1) [eT ⟨⟨[]⟩⟩,dC ef 0,dC ef 0,c6 K 0 0])/\h1.tr.get (h.ax+2)=Z (.ch [eT ⟨⟨[]⟩⟩,dC ef 0,dC ef 0,c6 K 0 0] b9 0 0)) ?_ ?_;exact⟨((((az.refl m).new _ _).new _ _).tick).new _ _,ag,by simp[aC,L,q],⟨0,ag⟩,ag⟩;rintro h1⟨G,q,m,⟨q,y⟩,k⟩;have l0:=d.ax;refine ck.call (V:=λv V=>az aV h1 V/\∃L:SV,v=L.v/\bx encI h1.ax V L.v (nI (dU bs))) (by simpa [aC] using IT G.ok (name:=name) (p:=p) (r:=r) (l.mono f (d.trans G)) E.ends E.n1) ?_;rintro _ j⟨D,O,rfl,u⟩;have g:=(d.trans G).trans D;have d:=D.get G.ok m;have s:=D.get G.ok y;have m:=D.get G.ok k;simp[aC] at d;simp[d];refine ck.call (V:=js name p r (bu bs (dU bs)) j) (by simpa [aC] using E6 g.ok (.refl g.ok) (name:=name) (p:=p) (r:=r) (l.mono f g) E i u.sl J o.lt) ?_;rintro _ g⟨I,f,ys,rfl,i,l,H⟩;have l:=I.get D.ok s;have d:=I.get D.ok m;have m:h.ax+2=h.ax+1+1:=Q;rw[m] at d;simp[aC,d];have w:=aX (off:=0) (vs:=[eT name,dC ef p,dC ef r,f.v]) I.ok d;have d:(put g (h.ax+1+1) 0 [eT ⟨⟨[]⟩⟩,dC ef 0,dC ef 0,c6 K 0 0] [eT name,dC ef p,dC ef r,f.v] 0).tr.get (h.ax+1+1)=Z (.ch [eT name,dC ef p,dC ef r,f.v] b9 0 g.clock):=by rw[bc];rfl
 simp only[SV.AK] at w d;have j:=w.get I.ok l J;have l:=G.ax;have l:=D.ax;have f:=i.go I.ok w (λc l e W=>aw (i.new l c W));have i:=(G.trans D).trans I;have m:az aV h _:=i.trans' w aj (λc z e=>J);generalize put g (h.ax+1+1) 0 _ _ 0=h4 at*;refine bm.call (V:=λv V=>az aV h4 V/\∃L:SV,v=L.v/\bx encI h4.ax V L.v (Gp p (bu bs (dU bs)))) (by rw[<-H];simpa [aC] using Y5 w.ok (name:=name) (r:=r) f (by rw[H];exact M)) ?_;rintro _ i⟨C,L,rfl,k⟩;have s:=f.cr w.ok C;have g:=C.get w.ok d;have y:=C.get w.ok j;have j:Y (Gp p (bu bs (dU bs)))<1000000:=by exact Jy M.l3 ai
 simp[g];refine bm.call (V:=js name p r ((bu bs (dU bs)).map (zn (Gp p (bu bs (dU bs))))) i) (by rw[<-H];simpa [aC] using Oc C.ok (.refl C.ok) (name:=name) (p:=p) (r:=r) s.view (by rw[H];exact n) (by rw[H];omega) (by rw[H];exact k.sl) (by rw[H];exact j)) ?_;rintro _ j⟨d,t,s,rfl,f,u,n⟩;have i:=d.get C.ok g;have g:=d.get C.ok y;have y:L.l=Y (Gp p (bu bs (dU bs))):=by have⟨a,L,e,_⟩:=id k.sl;simp at e;exact e.2.1
 simp[aC,i,g,y];have L:=(((az.refl d.ok).put (S:=λx=>x=h.ax+1\/x=h.ax+1+1) (off:=0) (vs:=[eK name,aL ef p,aL ef r,bo t.a t.l t.c]) ⟨_,i⟩ (ft (ft Q))).put (b:=h.ax+1+1) (off:=2) (cs:=[eK name,aL ef p,aL ef r,bo t.a t.l t.c]) (o:=0) (vs:=[aL ef (Gp p (bu bs (dU bs))).length]) ⟨j.clock,by simp[bg]⟩ (ft (ft Q))).put (b:=h.ax+1) (off:=0) (cs:=[eK ⟨⟨[]⟩⟩,aL ef 0,aL ef 0,bo K 0 0]) (o:=0) (vs:=[eK name,aL ef p,aL ef (Gp p (bu bs (dU bs))).length,bo t.a t.l t.c]) ⟨q,av g⟩ (ft (fc Q));generalize put (put (put j _ _ _ _ _) _ _ _ _ _) _ _ _ _ _=h7 at L⊢;have j:=C.ax;have j:=w.ax;have j:=I.ax;exact⟨((m.trans C).trans d).trans' L aj (λc z e=>J),t,s,by simp[aC,iQ],(f.go d.ok L λc l e W=>aw (f.new l c W)).cX J,u,n⟩
end Go.Proofs.YtdhnndleffachaaGreatDoor
