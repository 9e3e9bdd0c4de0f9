/- Parts of the proof. -/
import Derived.Test.YtdhnndleffachaaGreatDoorP06
import Derived.Test.YtdhnndleffachaaGreatDoorP05
import Derived.Test.YtdhnndleffachaaGreatDoorP02
import Derived.Test.YtdhnndleffachaaGreatDoorP04
open Classical renaming byContradiction->eK
open Go renaming Value->aa,stepG->cG
open Nat renaming le_succ->dd
open Ne renaming symm->cE
open Option.some renaming inj->gD
open Option renaming some->Z,none->K,map_eq_some_iff->ed
open Bool renaming false->cd,true->ck
open List renaming length->cz,drop_length->bE,filter_append->dQ,filter_cons_of_neg->da,filter_eq_self->nw,filter_map->wb,getElem?_inj->oo,getElem?_mapIdx->dk,getElem?_range->fj,getElem_inj->eX,length->bW,length_erase_of_mem->xT,map_append->aL,map_congr_left->cc,map_map->bL,map_set->cL,mem_or_eq_of_mem_set->oj,nodup_cons->oa,of_mem_zip->bV,pairwise_map->ic,range->aU,replicate->ae
open Go.Value renaming slice->dB,bool->dC,pointer->eU,int->fc,string->gX,agg->ix,bool->br,int->aA
open Go.IntKind renaming i64->ft
open Or renaming inl->jZ,inr->kd
set_option linter.all false
set_option maxHeartbeats 1000000
namespace Go.Proofs.YtdhnndleffachaaGreatDoor
open Go.AI
variable{B L L' P':SV}{P c i j j0 k n V nb w:Nat}{U:bH->Env->az->Prop}{a:Int×Int}{ah:List (List Int)}{bs g:List GB}{bt cg kind op to1:Int}{cx vq:Bool}{e:Env}{h1:az}{name:ByteArray}{on v:Bool×Int}{ps to I:List Int}{q:GP×SV}{row:List (Bool×Int)}{ws:List SV}{x:GB}{o:List aa}{xs:List GI}{y:YB}{s:List YB}
section
variable{g:List GB}{A:List Nat}{b t m d:Nat}{X T r p:GB}
def nH.g_(C:nH g A)(E:EB g)(I:A[i]?=Z k)(U:g[k]?=Z x){p:GP}(H:p∈x.bz)(e:Int×(Bool×Int)):e∈(aN (bu g A) i).zip (pd (aV (nI A)) (cz A) (aN g k) p).row↔ ∃y∈(aN g k).zip p.row,0<=aV (nI A) y.1/\e=(aV (nI A) y.1,y.2):=by
 have O:=E.rows k x U p H;have u:Uk (fS (aV (nI A)) ((aN g k).zip p.row)):=λa v w h1 l=>congrArg Prod.snd (Wm (C.key k) _ h1 _ l Q);have o:∀y∈fS (aV (nI A)) ((aN g k).zip p.row),0<=y.1/\y.1<cz A:=λy b=>by obtain⟨z,H,f,rfl⟩:=vW.1 b;have⟨j,e,_⟩:=cJ.1 (bV (a:=z.1) (b:=z.2) H).1;refine⟨f,?_⟩;rcases C.o.place j with⟨i,_,l,V⟩|⟨_,l⟩;show aV (nI A) z.1<_;rw[e];omega;rw[e] at f;omega
 have f:=Rx (n:=cz A) (iB (bu g A) i) u (λa=>?_) o;rw[show(pd (aV (nI A)) (cz A) (aN g k) p).row=iP (fS (aV (nI A)) ((aN g k).zip p.row)) (cz A) from Q,f.1,vW];rw[C.keys E I O,kC];constructor;rintro⟨j,E,rfl⟩;have⟨_,v,f⟩:=ss.1 E;exact⟨v,(sg u).1 f⟩;rintro⟨v,f⟩;have:=o _ f;simp at this;exact⟨a.toNat,ss.2 ⟨ab,v,(sg u).2 (by rw[show((a.toNat:Nat):Int)=a by omega];exact f)⟩,ab⟩
def Dd(g:List GB)(A:List Nat):Prop:=∀(k:Nat)(x:GB),g[k]?=Z x->k∉A->x.to=[]
def nH.back(C:nH g A)(E:EB g)(D:Dd g A)(c:dE (bu g A) m d r p):∃b t X T,A[m]?=Z b/\A[d]?=Z t/\dE g b t X T/\r=eW (aV (nI A)) (cz A) (aN g b) X/\p=eW (aV (nI A)) (cz A) (aN g t) T:=by
 obtain⟨b,X,H,O,rfl⟩:=tm C.o c.hb;obtain⟨t,T,o,z,rfl⟩:=tm C.o c.ht;have h1:X.to.map (aV (nI A))=[(d:Int)]:=c.to;have⟨u,I⟩:∃u,X.to=[u]:=by
  match U:X.to with
  |[]=>rw[U] at h1;simp at h1
  |[u]=>exact⟨u,Q⟩
  |u::v::l=>rw[U] at h1;simp at h1
 obtain⟨i,v,rfl,f,W,_⟩:=C.KE E (cO H) O (t:=u) (by rw[I];simp);rw[I] at h1;have:d=i:=by simp at h1;omega
 subst this;rw[o] at f;cases f;refine⟨b,t,X,T,H,o,⟨O,z,c.k2,I,λe=>c.ne ?_,?_,?_⟩,Q,Q⟩;subst e;exact(oo (cY.mp o).1 C.o.nd).1 (o.trans H.symm);have:T.bz.map _=[]:=c.ph;exact List.map_eq_nil_iff.1 this
 .have f:=c.one
  match f:aN g t with
  |[]=>simp
  |[x]=>simp
  |x::y::l=>
   exfalso;have z:=jz g t;rw[f] at z;have W:x≠y:=λe=>(oa.1 z).1 (by rw[e];simp);have pos:∀z∈aN g t,∃a w:Nat,z=(w:Int)/\A[a]?=Z w/\(a:Int)∈aN (bu g A) d:=λz z=>by
    obtain⟨w,rfl,H,O,V⟩:=cJ.1 z;have u:w∈A:=eK λh=>by have:=D w H O h;rw[this] at V;cases V
    have⟨a,f⟩:=iG u;exact⟨a,w,Q,f,(C.ahead E o).2 ⟨w,f,z⟩⟩
   obtain⟨h,C,rfl,C,u⟩:=pos x (by rw[f];simp);obtain⟨O,z,rfl,z,E⟩:=pos y (by rw[f];simp);have:h=O:=by have O:=c.only u;have u:=c.only E;omega
   subst this;rw[C] at z;cases z;exact W rfl
def nH.fwd(C:nH g A)(E:EB g)(D:Dd g A)(c:dE g b t X T):∃m d,dE (bu g A) m d (eW (aV (nI A)) (cz A) (aN g b) X) (eW (aV (nI A)) (cz A) (aN g t) T):=by
 have I:b∈A:=eK λh=>by have:=D b X c.hb h;rw[c.to] at this;cases this
 have⟨m,o⟩:=iG I;have⟨d,v,e,f,h,_⟩:=C.KE E I c.hb (t:=(t:Int)) (by rw[c.to];simp);have:v=t:=ab
 subst this;refine⟨m,d,yT o c.hb,yT f c.ht,c.k2,by show X.to.map _=_;rw[c.to];simp[h],λe=>?_,by show T.bz.map _=[];rw[c.ph];rfl,?_⟩;subst e;rw[o] at f;cases f;exact c.ne rfl
 .match w:aN (bu g A) d with
  |[]=>simp
  |[x]=>simp
  |x::y::l=>
   exfalso;have h:=jz (bu g A) d;rw[w] at h;have O:x≠y:=λe=>(oa.1 h).1 (by rw[e];simp);have pos:∀z∈aN (bu g A) d,z=(m:Int):=λz z=>by obtain⟨a,rfl,h,V,U⟩:=cJ.1 z;have⟨u,H,h⟩:=(C.ahead E f).1 z;have:=c.only h;subst this;have:=(oo (cY.mp H).1 C.o.nd).1 (H.trans o.symm);omega
   exact O ((pos x (by rw[w];simp)).trans (pos y (by rw[w];simp)).symm)
end
section
variable{g:List GB}{A:List Nat}{b t m d:Nat}{X T h f:GB}
def nH.dp(C:nH g A)(c:dE g b t X T):nH (cG g b t X T) A:=by
 refine⟨by rw[iJ];exact C.o,C.z,λk y l w u f=>?_⟩;obtain⟨x,E,rfl⟩:=gf w;rw[dP] at f;split at f;cases f
 .split at f;rename_i e;subst e;have o:=C.cl k X l c.hb t (by rw[c.to];simp);simp at o;exact C.cl t T o c.ht u f
  exact C.cl k x l E u f
def Dd.step(D:Dd g A)(u:b∈A):Dd (cG g b t X T) A:=λk y o f=>by obtain⟨x,l,rfl⟩:=gf o;rw[dP];split;rfl;rw[bM (λe:k=b=>f (by rw[e];exact u))];exact D k x l f
def adW(C:nH g A)(E:EB g)(c:dE g b t X T)(s:A[m]?=Z b)(U:A[d]?=Z t)(a:dE (bu g A) m d (eW (aV (nI A)) (cz A) (aN g b) X) (eW (aV (nI A)) (cz A) (aN g t) T)):cG (bu g A) m d (eW (aV (nI A)) (cz A) (aN g b) X) (eW (aV (nI A)) (cz A) (aN g t) T)=bu (cG g b t X T) A:=by
 have F:=C.dp c;have P:=C.eb E;have n:=c.eb E;have H:cz (bu g A)=cz A:=by simp[bu]
 refine SL (F.eb n) (a.eb P) (by rw[iJ,H];simp[bu]) λi v v h1 D=>?_;obtain⟨k,M,H,W,rfl⟩:=tm F.o h1;obtain⟨x,l,rfl⟩:=gf W;obtain⟨w,S,rfl⟩:=gf D;obtain⟨N,u,z,I,rfl⟩:=tm C.o S;rw[H] at z;cases z;rw[l] at I;cases I;have r:∀ {j u:Nat},A[j]?=Z u->(i=j↔k=u):=fun {j u} hj=>by constructor;intro e;subst e;rw[H] at hj;cases hj;rfl;intro e;subst e;exact(oo (cY.mp H).1 C.o.nd).1 (H.trans hj.symm)
 have V:=r U;have v:=r s;refine⟨?_,?_⟩
 .by_cases f:k=t;have o:=V.2 f;rw[vO f,vO o];exact⟨Q,Q,Q,Q⟩
  .have o:¬i=d:=λh=>f (V.1 h);by_cases O:k=b
   .have N:=v.2 O;have:x=X:=by rw[O,c.hb] at l;cases l;rfl
    subst this;simp only[eW,fJ,dY,iS,dP,bM f,bM o,bK O,bK N];exact⟨trivial,trivial,trivial,trivial⟩
   have N:¬i=m:=λh=>O (v.1 h);simp only[eW,fJ,dY,iS,dP,bM f,bM o,bM O,bM N];exact⟨trivial,trivial,trivial,trivial⟩
 .by_cases f:k=t;have o:=V.2 f;rw[vO f,vO o];exact⟨Q,λj L D h=>by simp[eW,uw] at h⟩
  .have o:¬i=d:=λh=>f (V.1 h);have p:(bu g A)[i]?=Z (eW (aV (nI A)) (cz A) (aN g k) x):=yT H l;rw[a.bz P p o];have z:(eW (aV (nI A)) (cz A) (aN (cG g b t X T) k) (dU g b t X T k x)).bz=(x.bz.map (vp g t b k)).map (pd (aV (nI A)) (cz A) (aN (cG g b t X T) k)):=by rw[<-c.bz E l f];rfl
   have B:(eW (aV (nI A)) (cz A) (aN g k) x).bz=x.bz.map (pd (aV (nI A)) (cz A) (aN g k)):=Q;rw[z,B];refine⟨J,λj L D L W=>?_⟩;rw[bL,gM] at L W;obtain⟨q,N,rfl⟩:=ed.1 L;rw[N] at W;cases W;have z:=cO N;refine⟨Q,λe B=>?_⟩;have S:vp g t b k q∈(dU g b t X T k x).bz:=by rw[c.bz E l f];exact KA z
   have O:pd (aV (nI A)) (cz A) (aN g k) q∈(eW (aV (nI A)) (cz A) (aN g k) x).bz:=KA z;obtain⟨M,D,v,rfl⟩:=(F.g_ n H (iq l) S e).1 B;obtain⟨y,n,rfl⟩:=(c.g_ E l f z M).1 D;refine(a.g_ P p o O _).2 ?_;by_cases a:y.1=t;refine⟨(aV (nI A) y.1,y.2),(C.g_ E H l z _).2 ⟨y,n,by rw[a,C.o.pos U];omega,Q⟩,?_⟩;unfold iZ;rw[bK a,bK (by show aV (nI A) y.1=_;rw[a,C.o.pos U])];show(aV (nI A) (b:Int),y.2)=_;rw[C.o.pos s]
   .have W:iZ (t:Int) b y=y:=by unfold iZ;rw[bM a]
    rw[W] at v⊢;refine⟨(aV (nI A) y.1,y.2),(C.g_ E H l z _).2 ⟨y,n,v,Q⟩,?_⟩;unfold iZ;rw[bM (λe=>?_)];have⟨u,P,_⟩:=cJ.1 (bV (a:=y.1) (b:=y.2) n).1;have D:aV (nI A) (u:Int)=d:=by rw[<-P];exact e
    rcases C.o.place u with⟨H,C,v,_⟩|⟨_,v⟩
    .have:d=H:=ab
     subst this;rw[U] at C;cases C;exact a P
    omega
end
def vm(A C:List Nat):List Nat:=C.map λi=>(A[i]?).getD 0
section
variable{h:List GB}{A C:List Nat}
def KU(f:C[i]?=Z j)(l:A[j]?=Z k):(vm A C)[i]?=Z k:=by unfold vm;rw[gM,f];simp[l]
def Sn(o:Ord (cz A) C)(f:(vm A C)[i]?=Z k):∃j,C[i]?=Z j/\A[j]?=Z k:=by unfold vm at f;rw[gM] at f;have⟨j,l,e⟩:=ed.1 f;have:=o.lt j (cO l);refine⟨j,l,?_⟩;rw[jh this] at e⊢;simpa using e
def nH.comp(w:nH h A)(E:EB h)(I:nH (bu h A) C):nH h (vm A C):=by
 have l:cz (bu h A)=cz A:=by simp[bu]
 have H:Ord (cz A) C:=by rw[<-l];exact I.o
 have l:∀k∈vm A C,∃i j:Nat,C[i]?=Z j/\A[j]?=Z k:=λk f=>by have⟨i,O⟩:=iG f;have⟨j,a,c⟩:=Sn H O;exact⟨i,j,a,c⟩
 refine⟨⟨?_,λk f=>?_⟩,?_,λk x f V u d=>?_⟩;unfold vm;refine ic.2 (H.nd.imp_of_mem fun {a c} ha hb eV e=>eV ?_);have b:=H.lt a ha;have U:=H.lt c hb;rw[jh b,jh U] at e;exact(oo b w.o.nd).1 (by rw[jh b,jh U];simpa using e)
 have⟨i,j,_,o⟩:=l k f;exact w.o.lt k (cO o);exact KU I.z w.z;have⟨i,j,O,o⟩:=l k f;obtain⟨f,v,rfl,l,W,_⟩:=w.KE E (cO o) V d;have:=I.cl j _ (cO O) (yT o V) (f:Int) (kC.2 ⟨_,d,W⟩);simp at this;have⟨n,d⟩:=iG this;exact cO (KU d l)
def QI(l:nH h A)(E:EB h)(f:nH (bu h A) C):bu (bu h A) C=bu h (vm A C):=by
 have m:cz (bu h A)=cz A:=by simp[bu]
 have d:Ord (cz A) C:=by rw[<-m];exact f.o
 have o:=l.comp E f;have m:=l.eb E;have r:∀ {i j k:Nat},C[i]?=Z j->A[j]?=Z k->aV (nI (vm A C)) k=i:=λa b=>o.o.pos (KU a b);refine SL (o.eb E) (f.eb m) (by simp[bu,vm]) λi b b h1 b=>?_;obtain⟨k,x,W,H,rfl⟩:=tm o.o h1;obtain⟨j,z,U,O,rfl⟩:=tm f.o b;obtain⟨b,b,V⟩:=Sn d W;rw[U] at b;cases b;have b:=yT V H;rw[O] at b;cases b;refine⟨⟨Q,Q,Q,?_⟩,by simp[eW],λb p b b w=>?_⟩
 simp only[eW];rw[bL];refine cc λu g=>?_;obtain⟨s,v,rfl,p,c,_⟩:=l.KE E (cO V) H g;have:=f.cl j _ (cO U) O (s:Int) (kC.2 ⟨_,g,c⟩);simp at this;have⟨n,g⟩:=iG this;show aV (nI C) (aV (nI A) (v:Int))=_;rw[c,f.o.pos g,r g p]
 .simp only[eW] at b w;rw[bL,gM] at w;rw[gM] at b;obtain⟨q,c,rfl⟩:=ed.1 b;rw[c] at w;cases w;have b:=cO c;have c:cz (vm A C)=cz C:=by simp[vm]
  refine⟨Q,λe p=>?_⟩;obtain⟨y,g,c,rfl⟩:=(o.g_ E W H b e).1 p;have W:pd (aV (nI A)) (cz A) (aN h k) q∈(eW (aV (nI A)) (cz A) (aN h k) x).bz:=KA b;refine(f.g_ m U O W _).2 ?_;have⟨u,I,_⟩:=cJ.1 (bV (a:=y.1) (b:=y.2) g).1;rw[I] at c⊢;rcases o.o.place u with⟨n,m,c,_⟩|⟨_,c⟩
  have⟨j0,W,O⟩:=Sn d m;refine⟨(aV (nI A) y.1,y.2),(l.g_ E V H b _).2 ⟨y,g,by rw[I,l.o.pos O];omega,Q⟩,?_,?_⟩;show 0<=aV (nI C) (aV (nI A) y.1);rw[I,l.o.pos O,f.o.pos W];omega;show(aV (nI (vm A C)) (u:Int),y.2)=(aV (nI C) (aV (nI A) y.1),y.2);rw[I,l.o.pos O,f.o.pos W,c]
  omega
end
inductive DQ:List GB->List GB->Prop
 |refl (a:List GB):DQ a a
 |step {a g:List GB} {b t:Nat} {X T:GB} (s:DQ a g) (c:dE g b t X T):DQ a (bu (jm g b t T) (kr (cz g) t))
def Rc(E:EB g):nH g (aU (cz g)):=by refine⟨⟨List.nodup_range,λx f=>OB.1 f⟩,?_,λk x _ f u l=>?_⟩;rw[fj (av E.n1)];have:=E.to x (cO f) u l;exact OB.2 ab
def ahQ(E:EB g):bu g (aU (cz g))=g:=by
 have C:=Rc E;have I:∀k:Nat,k<cz g->aV (nI (aU (cz g))) (k:Int)=k:=λk f=>C.o.pos (fj f);refine SL E (C.eb E) (by simp[bu]) λi x y o U=>?_;obtain⟨k,z,f,u,rfl⟩:=tm C.o U;have a:=(cY.mp o).1;rw[fj a] at f;cases f;rw[o] at u;cases u;refine⟨⟨Q,Q,Q,?_⟩,by simp[eW],λm p W f w=>?_⟩
 .show x.to.map _=x.to
  conv=>rhs;rw[<-List.map_id x.to]
  refine cc λu l=>?_;have:=E.to x (cO o) u l;obtain⟨v,rfl⟩:∃v:Nat,u=v:=⟨u.toNat,ab⟩;exact I v ab
 simp only[eW] at w;rw[gM,f] at w;cases w;refine⟨Q,λe O=>?_⟩;have⟨u,H,z,V,_⟩:=cJ.1 (bV (a:=e.1) (b:=e.2) O).1;have l:=(cY.mp V).1;exact(C.g_ E (fj a) o (cO f) e).2 ⟨e,O,by rw[H,I u l];omega,by rw[H,I u l,<-H]⟩
def DQ.Yk{a V:List GB}(s:DQ a V)(E:EB a):∃g A,Steps a g/\EB g/\nH g A/\Dd g A/\V=bu g A:=by
 induction s with
 |refl=>
  refine⟨a,aU (cz a),.refl _,E,Rc E,λk x u w=>?_,(ahQ E).symm⟩;exact absurd (OB.2 (cY.mp u).1) w
 | @step E E E a a s o a=>
  obtain⟨g,A,S,f,C,D,rfl⟩:=a;have I:=C.eb f;obtain⟨h,t,X,T,b,a,c,rfl,rfl⟩:=C.back f D o;have U:=adW C f c b a o;have O:=C.dp c;have H:=c.eb f;have L:=o.left I;rw[U] at L;have f:cz (bu g A)=cz A:=by simp[bu]
  refine⟨cG g h t X T,vm A (kr (cz (bu g A)) E),S.trans (.one c),H,O.comp H L,λk x u w=>?_,?_⟩
  .by_cases h:k∈A;have⟨j,l⟩:=iG h;by_cases e:j=E;subst e;rw[a] at l;cases l;obtain⟨z,a,rfl⟩:=gf u;rw[vO rfl];rfl;have W:=(cY.mp l).1;have⟨i,a⟩:=iG (Ah.2 ⟨(by rw[f];exact W:j<cz (bu g A)),e⟩);exact absurd (cO (KU a l)) w
   exact D.step (cO b) k x u h
  rw[o.kept I,U,QI O H L]
def DQ.done{a l n:List GB}{I:Nat->Nat}(s:DQ a l)(E:EB a)(R:Rk a I)(f:∀x,xY l x)(S:Steps a n)(no:∀x,xY n x):∃A,EB n/\nH n A/\l=bu n A:=by
 obtain⟨g,A,w,o,C,D,rfl⟩:=s.Yk E;have l:∀x,xY g x:=λx u X U c=>by obtain⟨H,H,H⟩:=C.fwd o D c;exact f _ _ _ _ H
 have e:=apX _ a (fq _) E R g n w S l no;subst e;exact⟨A,o,C,Q⟩
def alq(E:EB bs):Rk (bu bs (eH bs)) id:=λk C=>by
 have C:=E.HV;have U:cz (bu bs (eH bs))=cz (eH bs):=by simp[bu]
 by_cases h:k<cz (eH bs);have⟨w,u,I⟩:=Q0 E.ends E.n1 k ab h;have⟨x,o⟩:=aQ (eH bs) k h;have h:=C.o.lt x (cO o);have l:=E.ahead h;have⟨p,H,f⟩:=(Tree.su o l).1 u;exact kd ⟨w,(C.ahead E o).2 ⟨p,H,f⟩,I⟩
 refine jZ (List.eq_nil_iff_forall_not_mem.2 λa l=>?_);have⟨j,_,H,O,f⟩:=cJ.1 l;have:=(C.eb E).to H (cO O) k f;omega
def iL(x:Int×Int):Prop:=x=(0,0)\/x.1=1\/x=(2,0)
def gO(a b:Int×Int):Int×Int:=if a.1=0\/a=b then b else if b.1=0 then a else(2,0)
def zj(x:Int×Int):Nat:=(2-x.1).toNat
def qQ(a b:Int×Int):Prop:=a.1=0\/a=b\/b.1=2
def iL.join{a b:Int×Int}(f:iL a)(l:iL b):iL (gO a b):=by unfold gO;split;exact l;split;exact f;exact kd (kd Q)
def qQ.refl(a:Int×Int):qQ a a:=kd (jZ Q)
def qQ.trans{a b c:Int×Int}(h:qQ a b)(k:qQ b c):qQ a c:=by rcases h with h|rfl|h;exact jZ h;exact k;rcases k with k|rfl|k;omega;exact kd (kd h);exact kd (kd k)
def qQ.anU{a b:Int×Int}(l:iL a)(f:iL b)(h:qQ a b)(k:qQ b a):a=b:=by rcases l with rfl|h1|rfl;rcases k with k|k|k;rcases f with rfl|o|rfl;rfl;omega;cases k;exact k.symm;cases k;rcases h with h|h|h;omega;exact h;rcases k with k|k|k;omega;exact k.symm;omega;rcases h with h|h|h;cases h;exact h;rcases f with rfl|o|rfl;cases h;omega;rfl
def qQ.Yg{a b:Int×Int}(f:iL a)(o:iL b)(h:qQ a b):zj b<=zj a/\(zj b=zj a->a=b):=by rcases h with h|rfl|h;rcases f with rfl|h1|rfl;rcases o with rfl|l|rfl;exact⟨fq _,λ_=>rfl⟩;simp[zj,l];decide;omega;cases h;exact⟨fq _,λ_=>rfl⟩;rcases o with rfl|l|rfl;cases h;omega;rcases f with rfl|h1|rfl;decide;simp[zj,h1];exact⟨fq _,λ_=>rfl⟩
def join_le{a b c:Int×Int}(h:qQ a c)(k:qQ b c):qQ (gO a b) c:=by unfold gO;split;exact k;rename_i h1;split;exact h;rename_i f;rcases h with h|rfl|h;exact absurd (jZ h) h1;rcases k with k|rfl|k;exact absurd k f;exact absurd (kd Q) h1;exact kd (kd k);exact kd (kd h)
def Nh(a b:Int×Int):qQ a (gO a b):=by unfold gO;split;rename_i h;rcases h with h|rfl;exact jZ h;exact .refl _;split;exact .refl _;exact kd (kd Q)
def Wq(a b:Int×Int):qQ b (gO a b):=by unfold gO;split;exact .refl _;split;rename_i h;exact jZ h;exact kd (kd Q)
def ahO{a b:Int×Int}(f:iL a)(u:iL b)(o:gO a b≠a):zj (gO a b)<zj a:=by have⟨h1,l⟩:=(Nh a b).Yg f (f.join u);rcases Nat.lt_or_eq_of_le h1 with h|h;exact h;exact absurd (l h).symm o
def cS(a:List (Int×Int))(v:Bool×Int):Int×Int:=if v.1 then(a[v.2.toNat]?).getD (0,0) else(1,v.2)
def AG(a:List (Int×Int)):Prop:=∀x∈a,iL x
def IN{a:List (Int×Int)}(f:AG a)(v:Bool×Int):iL (cS a v):=by unfold cS;split;rcases h:a[v.2.toNat]? with _|x;exact jZ rfl;exact f x (cO h);exact kd (jZ Q)
def pG(a:List (Int×Int))(d:Int):Int×Int:=(a[d.toNat]?).getD (0,0)
def qf(a f:List (Int×Int)):Prop:=∀d:Int,qQ (pG a d) (pG f d)
def qf.refl(a:List (Int×Int)):qf a a:=λ_=>.refl _
def qf.trans{a b c:List (Int×Int)}(h:qf a b)(k:qf b c):qf a c:=λd=>(h d).trans (k d)
def qf.of{a f:List (Int×Int)}(h:qf a f)(v:Bool×Int):qQ (cS a v) (cS f v):=by unfold cS;split;exact h v.2;exact .refl _
def Zd{b:List (Int×Int)}(h:b[k]?=Z a):pG b k=a:=by simp[pG,h]
def agE{a:List (Int×Int)}(f:AG a)(d:Int):iL (pG a d):=IN f (ck,d)
def AG.set{h:List (Int×Int)}(f:AG h){k:Nat}{y:Int×Int}(l:iL y):AG (h.set k y):=λx o=>by rcases oj o with h|h;exact f x h;rw[h];exact l
def Hw{a:List (Int×Int)}{y:Int×Int}(f:k<cz a)(d:Int):pG (a.set k y) d=if d.toNat=k then y else pG a d:=by unfold pG;rw[fO];by_cases e:k=d.toNat;rw[bK e,bK f,bK e.symm];rfl;rw[bM e,bM (λh=>e h.symm)]
def qf.set{b a:List (Int×Int)}{k:Nat}{y:Int×Int}(l:k<cz b)(h:qf b a)(f:qQ y (pG a k)):qf (b.set k y) a:=λd=>by rw[Hw l];split;rename_i e;unfold pG at f⊢;rw[e];simpa using f;exact h d
def qf.up{b:List (Int×Int)}{a y:Int×Int}(f:b[k]?=Z a)(l:qQ a y):qf b (b.set k y):=λd=>by rw[Hw (cY.mp f).1];split;rename_i e;unfold pG;rw[e,f];exact l;exact .refl _
def qf.anU{a f:List (Int×Int)}(l:AG a)(o:AG f)(w:cz a=cz f)(h:qf a f)(k:qf f a):a=f:=by
 refine BT λi=>?_;have e:=(h i).anU (agE l _) (agE o _) (k i);simp only[pG,E0] at e;by_cases u:i<cz a
 rw[jh u,jh ab] at e⊢;exact congrArg Z e;rw[xU ab,xU ab]
def xr(op:Int)(a b:Int×Int):Int×Int:=if a.1=2\/b.1=2 then(2,0) else if a.1=0\/b.1=0 then(0,0) else if(iu op a.2 b.2).2=ck then(1,(iu op a.2 b.2).1) else(2,0)
def qC(a:List (Int×Int))(x:GI):Int×Int:=if 1<=x.op/\x.op<=17 then xr x.op (cS a x.a) (cS a x.b) else(2,0)
def alA(op:Int)(a b:Int×Int):iL (xr op a b):=by unfold xr;split;exact kd (kd Q);split;exact jZ rfl;split;exact kd (jZ Q);exact kd (kd Q)
def ab8(a:List (Int×Int))(x:GI):iL (qC a x):=by unfold qC;split;exact alA _ _ _;exact kd (kd Q)
def ad2{a f b d:Int×Int}(h:qQ a f)(k:qQ b d):qQ (xr op a b) (xr op f d):=by
 by_cases c:f.1=2\/d.1=2
 .have:xr op f d=(2,0):=by unfold xr;rw[bK c]
  rw[this];exact kd (kd Q)
 .have g:a.1=0\/a=f:=h.elim jZ λh=>h.elim kd λh=>absurd (jZ h) c;have l:b.1=0\/b=d:=k.elim jZ λh=>h.elim kd λh=>absurd (kd h) c;by_cases z:a.1=0\/b.1=0
  .have:xr op a b=(0,0):=by unfold xr;rw[bM,bK z];rintro(e|e);rcases g with h|rfl;omega;exact c (jZ e);rcases l with h|rfl;omega;exact c (kd e)
   rw[this];exact jZ rfl
  have u:a=f:=g.elim (λh=>absurd (jZ h) z) id;have o:b=d:=l.elim (λh=>absurd (kd h) z) id;rw[u,o];exact .refl _
def qf.mak{a f:List (Int×Int)}(h:qf a f)(x:GI):qQ (qC a x) (qC f x):=by unfold qC;split;exact ad2 (h.of _) (h.of _);exact .refl _
def vF(kind:Int)(on:Int×Int)(j:Nat):Bool:=kind==2||(on.1==2||(on.1==1&&((on.2 !=0)==((j:Int)==0))))
def IL{a b:Int×Int}(h:qQ a b)(e:vF kind a j=ck):vF kind b j=ck:=by rcases h with h|rfl|h;simp[vF,h] at e⊢;exact jZ e;exact e;simp[vF,h]
def jB(a:List (Int×Int))(b:Int):Bool:=b==0||a.any λe=>e.2==b
def FR{a c:List (Int×Int)}(h:∀e∈a,e∈c){b:Int}(e:jB a b=ck):jB c b=ck:=by simp only[jB,Bool.or_eq_true,List.any_eq_true] at e⊢;exact e.imp id λ⟨x,h1,f⟩=>⟨x,h x h1,f⟩
structure GK(b:Int)(ps:List Int)(x:GB)(fx gs fy hs:List (Int×Int)):Prop where
 NP:∀q∈x.bz,∀(j:Nat)(a:Int)(v:Bool×Int),ps[j]?=Z a->q.row[j]?=Z v->(a,b)∈gs->qQ (cS fx v) (pG fy q.dst)
 ins:∀y∈x.list,0<=y.dst->qQ (qC fx y) (pG fy y.dst)
 to:∀(j:Nat)(t:Int),x.to[j]?=Z t->vF x.kind (cS fx x.on) j=ck->(b,t)∈hs
structure Uw(bs:List GB)(p:Nat)(fx gs fy hs:List (Int×Int)):Prop where
 par:∀r:Nat,r<p->qQ (2,0) (pG fy r)
 bZ:∀(b:Nat)(x:GB),bs[b]?=Z x->jB gs b=ck->GK b (aN bs b) x fx gs fy hs
section
variable{bs:List GB}{p:Nat}{fx gs m d fy hs:List (Int×Int)}
def GK.mono{b:Int}(w:GK b ps x fx gs fy hs)(h:qf m fx)(g:∀e∈d,e∈gs):GK b ps x m d fy hs:=
 ⟨λq u j a v h1 f l=>(h.of v).trans (w.NP q u j a v h1 f (g _ l)),λy o t=>(h.mak y).trans (w.ins y o t),λj t h1 f=>w.to j t h1 (IL (h.of _) f)⟩
def Uw.mono(w:Uw bs p fx gs fy hs)(h:qf m fx)(g:∀e∈d,e∈gs):Uw bs p m d fy hs:=
 ⟨w.par,λb x h1 f=>(w.bZ b x h1 (FR g f)).mono h g⟩
structure uq(bs:List GB)(p n:Nat)(fx gs:List (Int×Int)):Prop where
 fl:cz fx=n
 fk:AG fx
 cl:Uw bs p fx gs fx gs
 ls:∀fy hs,AG fy->Uw bs p fy hs fy hs->qf fx fy/\∀e∈gs,e∈hs
def uq.eq(a:uq bs p n fx gs)(b:uq bs p n fy hs):fx=fy:=
 qf.anU a.fk b.fk (a.fl.trans b.fl.symm) (a.ls _ _ b.fk b.cl).1 (b.ls _ _ a.fk a.cl).1
end
def dG(e:Int×Int):aa:=ix ⟨[fc ft e.1,fc ft e.2]⟩
def qh(a:List (Int×Int)):List (aa×aa):=a.map λe=>(dG e,dC ck)
def abK(a b:Int×Int):fV [9,1,1] (dG a) (dG b)=Z (a==b):=by have⟨o,f⟩:=a;have⟨u,l⟩:=b;simp only[fV,dG,cN,d_,if_true,Bool.and_true];rfl
def Tp(e:Int×Int):∀a:List (Int×Int),zu [9,1,1] (dG e) (qh a)=Z (if e∈a then Z (dC ck) else K)
 |[]=>rfl
 |x::a=>by
  show(match fV [9,1,1] (dG e) (dG x) with
   |some ck=>Z (Z (br ck))
   |some cd=>zu [9,1,1] (dG e) (qh a)
   |none=>K)=_
  rw[abK];cases h:e==x
  .have:¬e=x:=aj h
   dsimp only;rw[Tp e a];simp[this]
  have:e=x:=aj h
  subst this;simp
def amv(e:Int×Int):∀a:List (Int×Int),e∉a->CA [9,1,1] (dC cd) (dG e) (qh a)=Z (dC cd,cz a,qh a++[(dG e,dC cd)])
 |[],_=>rfl
 |x::a,f=>by
  show(match fV [9,1,1] (dG e) (dG x) with
   |some ck=>if Jn (dG e)=ck then Z (br ck,0,(dG e,br ck)::qh a) else K
   |some cd=>match CA [9,1,1] (dC cd) (dG e) (qh a) with|some (v,i,o)=>Z (v,i+1,(dG x,br ck)::o)|none=>K
   |none=>K)=_
  have h1:¬e=x:=λh=>f (au h);have l:e∉a:=λh=>f (au h);rw[abK,show(e==x)=cd by simpa using h1];dsimp only;rw[amv e a l];rfl
def akB(e:Int×Int)(a:List (Int×Int)):(qh a++[(dG e,br cd)]).set (cz a) (dG e,dC ck)=qh (a++[e]):=by
 have:cz (qh a)=cz a:=by simp[qh]
 rw[<-this,List.set_append];simp[qh]
def an7(e:Int×Int)(a:List (Int×Int)):(qh a++[(dG e,br cd)])[cz a]?=Z (dG e,dC cd):=by
 have:cz (qh a)=cz a:=by simp[qh]
 rw[<-this];simp
def adr{h:az}(w:cu h)(o:qe)(E:∀u l op s,o≠ .bZ u l op s):ay aR h (h.new o):=by refine⟨dd _,fq _,λb f _=>F9 _ f,⟨λb H f=>?_,λb u l op s f=>?_⟩⟩;simp only[az.new,Tr.bN] at f⊢;by_cases e:b=h.aw;omega;rw[bM e] at f;exact Nat.lt_succ_of_lt (w.wf b H f);simp only[az.new,Tr.bN] at f⊢;by_cases e:b=h.aw;rw[bK e] at f;injection f with f;exact absurd f (E _ _ _ _);rw[bM e] at f;exact w.st b u l op s f
def Gm(h:az)(r:Nat)(a:List (aa×aa)):az:= {h with clock:=h.clock+1,tr:=h.tr.set r (.map a)}
@[simp] def arN(h:az)(r:Nat)(a:List (aa×aa)):(Gm h r a).aw=h.aw:=rfl
@[simp] def an1(h:az)(r:Nat)(a:List (aa×aa)):(Gm h r a).clock=h.clock+1:=rfl
def qx(h:az)(r b:Nat)(a:List (aa×aa)):(Gm h r a).tr.get b=if b=r then Z (.map a) else h.tr.get b:=by simp only[Gm,Tr.bN]
def Qs{h:az}(l:cu h){r:Nat}(f:List (aa×aa)){o:qe}(E:h.tr.get r=Z o):ay (· =r) h (Gm h r f):=by refine⟨fq _,dd _,λx f O=>by rw[qx,bM O],⟨λx H f=>?_,λx h w I u f=>?_⟩⟩;rw[qx] at f;by_cases e:x=r;subst e;exact l.wf _ _ E;rw[bM e] at f;exact l.wf x H f;rw[qx] at f;by_cases e:x=r;rw[bK e] at f;cases f;rw[bM e] at f;exact Nat.le_succ_of_le (l.st x h w I u f)
def Yg(N:Nat)(b:List (Int×Int))(a:List (Int×Int)):Nat:=(b.map zj).sum+(N-cz a)
structure Yr(nb:Nat)(gs:List (Int×Int)):Prop where
 nd:gs.Nodup
 lt:∀e∈gs,0<=e.1/\e.1<nb/\0<=e.2/\e.2<nb
def Yr.len{f:List (Int×Int)}(g:Yr nb f):cz f<=nb*nb:=by
 have h:(f.map λe=>e.1.toNat*nb+e.2.toNat).Nodup:=by
  show List.Pairwise (· ≠ ·) _;rw[ic];refine List.Pairwise.imp_of_mem (fun {x y} l hy eV e=>eV ?_) g.nd;have⟨E,H,I,o⟩:=g.lt x l;obtain⟨f,O,U,f⟩:=g.lt y hy;have u:x.1.toNat=y.1.toNat:=by
   have h1:(x.1.toNat*nb+x.2.toNat)/nb=x.1.toNat:=by rw[Nat.mul_comm,Nat.mul_add_div ab,Nat.div_eq_of_lt ab,A1]
   have f:(y.1.toNat*nb+y.2.toNat)/nb=y.1.toNat:=by rw[Nat.mul_comm,Nat.mul_add_div ab,Nat.div_eq_of_lt ab,A1]
   rw[<-h1,<-f];exact congrArg (· /nb) e
  have V:x.2.toNat=y.2.toNat:=by rw[u] at e;exact Nat.add_left_cancel e
  exact Prod.ext ab ab
 have f:=TP h (l₂:=aU (nb*nb)) (λx l=>by obtain⟨e,w,rfl⟩:=kC.1 l;have⟨E,H,I,o⟩:=g.lt e w;rw[OB];have:(e.1.toNat+1)*nb<=nb*nb:=IX _ ab;rw[xf] at this;omega);simpa using f
def Yr.add{f:List (Int×Int)}(g:Yr nb f){e:Int×Int}(w:e∉f)(h:0<=e.1/\e.1<nb/\0<=e.2/\e.2<nb):Yr nb (f++[e]):=by refine⟨?_,λx f=>?_⟩;rw[List.nodup_append];refine⟨g.nd,J,λa o b l u=>?_⟩;simp at l;subst u;exact w (l▸o);rcases kg.1 f with f|f;exact g.lt x f;simp at f;rw[f];exact h
def acB{h:Type}(f:h->Nat):∀(l:List h)(i:Nat)(x y:h),l[i]?=Z x->((l.set i y).map f).sum+f x=(l.map f).sum+f y
 |a::l,0,x,y,h=>by simp at h;subst h;simp only[List.set_cons_zero,xg,O2];omega
 |a::l,i+1,x,y,h=>by have:=acB f l i x y (aj h);simp only[List.set_cons_succ,xg,O2];omega
def alT{N:Nat}{b gs:List (Int×Int)}{r:Nat}{a c:Int×Int}(h:b[r]?=Z a)(f:zj c<zj a):Yg N (b.set r c) gs<Yg N b gs:=by have:=acB zj b r a c h;unfold Yg;omega
def alS{fx a:List (Int×Int)}{e:Int×Int}(g:Yr nb (a++[e])):Yg (nb*nb) fx (a++[e])<Yg (nb*nb) fx a:=by have:=g.len;unfold Yg;simp at this⊢;omega
section
variable{h0 hz:az}{S d m n nb:Nat}{name:ByteArray}{p r:Int}{B AH:SV}{M C:List (Int×Int)->List (Int×Int)->Prop}
def dW(name:ByteArray)(p r:Int)(B AH:SV)(d n m:Nat)(cx:Bool):List aa:=[gX name,fc ft p,fc ft r,B.v,AH.v,dB (Z ⟨d,0,K⟩) n n,.map (Z m),dC cx]
def DM(d m x:Nat):Prop:=x=d\/x=m
structure De(h0 hz h:az)(S d m n nb:Nat)(name:ByteArray)(p r:Int)(B AH:SV)(fx gs:List (Int×Int))(cx:Bool):Prop where
 g:ay aR h0 h
 gy:ay (DM d m) hz h
 nSy:hz.aw<=S
 nS:h0.aw<=S
 nd:h0.aw<=d
 nm:h0.aw<=m
 hS:di h S (dW name p r B AH d n m cx)
 hd:di h d (jC.flat fx)
 hm:h.tr.get m=Z (.map (qh gs))
 fl:cz fx=n
 fk:AG fx
 gi:Yr nb gs
 ne:S≠d/\S≠m/\d≠m
def PQ(S d m x:Nat):Prop:=x=S\/x=d\/x=m
def De.grow{h a:az}{c b:List (Int×Int)}(w:De h0 hz h S d m n nb name p r B AH c b cx)(g:ay aR h a):De h0 hz a S d m n nb name p r B AH c b cx:=by have⟨u,o⟩:=w.hS;have⟨l,f⟩:=w.hd;exact⟨w.g.trans g,w.gy.trans g.cm,w.nSy,w.nS,w.nd,w.nm,⟨u,g.get w.g.ok o⟩,⟨l,g.get w.g.ok f⟩,g.get w.g.ok w.hm,w.fl,w.fk,w.gi,w.ne⟩
structure Sv(h:az)(S d m n:Nat)(name:ByteArray)(p r:Int)(B AH:SV)(fx:List (Int×Int)):Prop where
 hS:∃s cx,h.tr.get S=Z (.bZ (dW name p r B AH d n m cx) cd 0 s)
 hd:di h d (jC.flat fx)
 fl:cz fx=n
def De.sv{h:az}{a b:List (Int×Int)}(w:De h0 hz h S d m n nb name p r B AH a b cx):Sv h S d m n name p r B AH a:=by have⟨s,f⟩:=w.hS;exact⟨⟨s,cx,f⟩,w.hd,w.fl⟩
def Sv.grow{a:Nat->Prop}{h b:az}{c:List (Int×Int)}(w:Sv h S d m n name p r B AH c)(f:cu h)(g:ay a h b)(E:¬a S)(h:¬a d):Sv b S d m n name p r B AH c:=by have⟨⟨s,cx,u⟩,⟨o,l⟩,H⟩:=w;exact⟨⟨s,cx,g.get f u E⟩,⟨o,g.get f l h⟩,H⟩
def HP{h:az}(f:cu h){a:List (Int×Int)}(w:Sv h S d m n name p r B AH a)(V:rS n v):aY FF 225 [eU (Z ⟨S,0,K⟩),ix ⟨[dC v.1,fc ft v.2]⟩] h (λu b=>u=dG (cS a v)/\ay aR h b):=by
 obtain⟨b,cx,b⟩:=w.hS;have⟨E,o⟩:=w.hd;refine aY.of He ?_;unfold yw;have⟨E,k⟩:=v;have H:¬h.aw=h.aw+1:=ab
 cases E;simp[cS,dG,H];exact((ay.refl f).new _ _).var _ _;have⟨O,E⟩:=V rfl;dsimp only at O E;obtain⟨k,rfl⟩:∃E:Nat,k=E:=⟨k.toNat,ab⟩;have E:k<n:=ab
 have⟨x,O⟩:=aQ a k (by rw[w.fl];exact E);have U:=f.cg b;have W:=f.cg o;have I:=Gp o O 0 2 ag;have l:=b;simp[dW] at l;simp[-ax] at I;simp[l,U,W,I,E,bj,eY,aB l,aI,aH,-ax,H];have:cS a (ck,(k:Int))=x:=by simp[cS,O]
 rw[this];refine⟨Q,?_⟩;exact((ay.refl f).new _ _).tick.var _ _
def adQ(h:az)(W:cu h)(a b:Int×Int):aY FF 254 [dG a,dG b] h (λu l=>u=dG (gO a b)/\ay aR h l):=by
 refine aY.of O9 ?_;unfold EG;have⟨l,o⟩:=a;have⟨f,w⟩:=b;have H:¬h.aw=h.aw+1:=ab
 have b:¬h.aw=h.aw+1+1:=ab
 have I:¬h.aw+1=h.aw+1+1:=ab
 have G:ay aR h (aJ (aJ (aJ h [fc ft l,fc ft o] 0) [fc ft f,fc ft w] 0) [fc ft 0,fc ft 0] 0):=((((ay.refl W).new _ _).new _ _).new _ _);have W:∀E:List aa,ay aR h (put (aJ (aJ (aJ h [fc ft l,fc ft o] 0) [fc ft f,fc ft w] 0) [fc ft 0,fc ft 0] 0) (h.aw+1+1) 0 [fc ft 0,fc ft 0] E 0):=λE=>G.put ⟨0,J⟩ (jZ ab);by_cases E:l=0
 subst E;simp[dG,gO,H,b,I];exact W _
 .have U:(l==0)=cd:=aj E
  by_cases O:l=f/\o=w;obtain⟨rfl,rfl⟩:=O;simp[dG,gO,H,b,I,E,U,fV,cN,d_];exact W _
  .have h:(l==f&&o==w)=cd:=by cases h1:l==f;rfl;cases c:o==w;rfl;exact absurd ⟨aj h1,aj c⟩ O
   have c:¬((l,o)=(f,w)):=λe=>O (by cases e;exact⟨Q,Q⟩);by_cases V:f=0;subst V;simp[dG,gO,H,b,I,E,U,h,fV,cN,d_];exact W _
   .have G:(f==0)=cd:=aj V
    have O:gO (l,o) (f,w)=(2,0):=by unfold gO;rw[bM (λe=>by rcases e with e|e;exact E e;exact c e),bM V]
    rw[O];simp[dG,H,b,I,E,U,h,G,fV,cN,d_];exact W _
structure Pt(M C:List (Int×Int)->List (Int×Int)->Prop)(N:Nat)(fx gs:List (Int×Int))(cx:Bool)(Gz OE:List (Int×Int))(vq:Bool):Prop where
 pt:Yg N Gz OE<=Yg N fx gs
 dn:cx=cd->vq=ck->Yg N Gz OE<Yg N fx gs
 up:cx=ck->vq=ck
 ls:∀fy hs,M fy hs->qf fx fy->(∀e∈gs,e∈hs)->qf Gz fy/\∀e∈OE,e∈hs
 gr:∀e∈gs,e∈OE
 gx:qf fx Gz
 st:vq=cd->Gz=fx/\OE=gs/\C fx gs
def Pt.refl{M C:List (Int×Int)->List (Int×Int)->Prop}{N:Nat}{c b:List (Int×Int)}{cx:Bool}(h:C c b):Pt M C N c b cx c b cx:=⟨fq _,(λh1 f=>by rw[h1] at f;cases f),λh=>h,λ_ _ _ a b=>⟨a,b⟩,λ_ h=>h,.refl _,λ_=>⟨Q,Q,h⟩⟩
def Pt.cU{M l C D:List (Int×Int)->List (Int×Int)->Prop}{N:Nat}{f d i g:List (Int×Int)}(a:Pt M C N f d cx i g vq)(h:∀c b,l c b->(∀e∈d,e∈b)->M c b)(k:C f d->D f d):Pt l D N f d cx i g vq:=
 ⟨a.pt,a.dn,a.up,λc b o h1 f=>a.ls c b (h c b o f) h1 f,a.gr,a.gx,λu=>(a.st u).imp id λh=>h.imp id k⟩
def zN(M C:List (Int×Int)->List (Int×Int)->Prop)(h0 hz:az)(S d m n nb:Nat)(name:ByteArray)(p r:Int)(B AH:SV)(f e:List (Int×Int))(cx:Bool)(h b:az):Prop:=
 ay (PQ S d m) h b/\∃c a vq,De h0 hz b S d m n nb name p r B AH c a vq/\Pt M C (nb*nb) f e cx c a vq
def zN.refl{M C:List (Int×Int)->List (Int×Int)->Prop}{h:az}{b a:List (Int×Int)}{cx:Bool}(w:De h0 hz h S d m n nb name p r B AH b a cx)(c:C b a):zN M C h0 hz S d m n nb name p r B AH b a cx h h:=⟨.refl w.g.ok,b,a,cx,w,.refl c⟩
def De.news{h:az}{b c:List (Int×Int)}(w:De h0 hz h S d m n nb name p r B AH b c cx){a y:Int×Int}(E:b[k]?=Z a)(s:iL y)(H:zj y<zj a)(o:qQ a y)(j:∀f g,M f g->qf b f->(∀e∈c,e∈g)->qQ y (pG f k)):zN M C h0 hz S d m n nb name p r B AH b c cx h (put (put h d (k*2) (jC.flat b) [fc ft y.1,fc ft y.2] 0) S 7 (dW name p r B AH d n m cx) [dC ck] 0):=by
 have q:=w.g.ok;have⟨O,t⟩:=w.hS;obtain⟨u,u⟩:=w.hd;have V:=(cY.mp E).1;have i:=Ie b k y V;have⟨W,v,l⟩:=w.ne;have I:=(ay.refl q).put (S:=PQ S d m) (off:=k*2) (vs:=[fc ft y.1,fc ft y.2]) ⟨_,u⟩ (kd (kd (jZ Q)));have u:(put h d (k*2) (jC.flat b) [fc ft y.1,fc ft y.2] 0).tr.get S=Z (.bZ (dW name p r B AH d n m cx) cd 0 O):=by rw[dO,bM W,t]
 have U:(put h d (k*2) (jC.flat b) [fc ft y.1,fc ft y.2] 0).tr.get d=Z (.bZ (jC.flat (b.set k y)) cd 0 h.clock):=by rw[dO,bK Q,i]
 have i:(put h d (k*2) (jC.flat b) [fc ft y.1,fc ft y.2] 0).tr.get m=Z (.map (qh c)):=by rw[dO,bM (λe=>l e.symm),w.hm]
 generalize put h d (k*2) (jC.flat b) [fc ft y.1,fc ft y.2] 0=h1 at I u U i⊢;have l:=I.put (off:=7) (vs:=[dC ck]) ⟨O,u⟩ (kd (jZ Q));refine⟨l,b.set k y,c,ck,⟨w.g.trans' l ai (λx u e=>?_),w.gy.trans' l ai (λx u e=>?_),w.nSy,w.nS,w.nd,w.nm,⟨h1.clock,by simp[dW]⟩,⟨h.clock,by rw[dO,bM (λe=>W e.symm),U]⟩,by rw[dO,bM (λe=>v e.symm),i],by simp[w.fl],λx u=>?_,w.gi,w.ne⟩,?_⟩
 .have:=w.nS;have:=w.nd;have:=w.nm
  rcases e with e|e|e<;>omega
 have:=w.nSy;rcases e with e|e|e;omega;exact jZ e;exact kd e;rcases oj u with h|h;exact w.fk x h;rw[h];exact s;have:=alT (N:=nb*nb) (gs:=c) E H;exact⟨ab,λ_ _=>this,λ_=>rfl,λf g h1 H c=>⟨H.set V (j f g h1 H c),c⟩,λ_ h=>h,.up E o,λh=>by cases h⟩
def Oe{h:az}{b j:List (Int×Int)}(w:De h0 hz h S d m n nb name p r B AH b j cx)(O:k<n){x:Int×Int}(hx:iL x)(hM:∀f g,M f g->qf b f->(∀e∈j,e∈g)->qQ x (pG f k)):aY FF 224 [eU (Z ⟨S,0,K⟩),fc ft k,dG x] h (λ_ v=>zN M (λb _=>qQ x (pG b k)) h0 hz S d m n nb name p r B AH b j cx h v):=by
 have C:=w.g.ok;have⟨s1,hS⟩:=w.hS;have⟨s2,N⟩:=w.hd;have⟨a,H⟩:=aQ b k (by rw[w.fl];exact O);have I:=w.fk a (cO H);refine aY.of Fp ?_;unfold wF;have⟨o,l⟩:=x;have oS:=C.cg hS;have od:=C.cg N;have A:=hS;simp[dW] at A;have V:=Gp N H 0 2 ag;simp[-ax] at V;simp[dG,A,oS,od,V,O,bj,eY,aB A,aI,aH,-ax];refine bS.cut (λh1=>ay aR h h1/\di h1 h.aw [fc ft o,fc ft l]) ?_ ?_
 exact⟨((ay.refl C).new _ _).tick,0,J⟩;rintro h1⟨W,s3,lh⟩;refine bS.call (V:=λu' v=>u'=dG (gO a (o,l))/\ay aR h1 v) (by simpa [dG] using adQ h1 W.ok a (o,l)) ?_;rintro _ E⟨rfl,U⟩;have X:=W.trans U;have F:=U.get W.ok lh;have lX:=W.ok.wf _ _ lh;have hj:=I.join hx;have aCF:=ahO I hx;have hMj:∀f g,M f g->qf b f->(∀e∈j,e∈g)->qQ (gO a (o,l)) (pG f k):=λf g h1 E h3=>join_le (by have:=E k;rwa [Zd H] at this) (hM f g h1 E h3);have hR:=Wq a (o,l);have hjL:=Nh a (o,l);generalize gO a (o,l)=y at*;have⟨s,t⟩:=y;have⟨G,L⟩:=a;have w2:=w.grow X;have⟨s5,T⟩:=w2.hS;have⟨s6,z⟩:=w2.hd;have oS2:=U.ok.cg T;have od2:=U.ok.cg z;have i:=T;simp[dW] at i;have D:=Gp z H 0 2 ag;simp[-ax] at D;have nS:¬S=h.aw:=av oS.lt
 have P:¬d=h.aw:=av od.lt
 have nSd:¬S=d:=w.ne.1;have nSm:¬m=S:=λe=>w.ne.2.1 e.symm;have ndm:¬m=d:=λe=>w.ne.2.2 e.symm;have u:ay aR h (put E h.aw 0 [fc ft o,fc ft l] [fc ft s,fc ft t] 0):=X.put ⟨s3,F⟩ (jZ (fq _));by_cases c:s=G/\t=L
 obtain⟨rfl,rfl⟩:=c;simp[dG,F,i,nS,P,D,O,aB i,aI,aH,cn,-ax,fV,cN,d_];exact⟨u.tick.cm,b,j,cx,w.grow u.tick,.refl (by rw[Zd H];exact hR)⟩
 .have c':(s==G&&t==L)=cd:=by cases h1:s==G;rfl;cases E:t==L;rfl;exact absurd ⟨aj h1,aj E⟩ c
  have hp:=aCF (λe=>c (by cases e;exact⟨Q,Q⟩));have qm:k*2+2<=cz b*2:=av w.fl
  have sp:=Ie b k (s,t) (by rw[w.fl];exact O);simp[dG,F,i,nS,P,D,O,aB i,aI,aH,cn,-ax,fV,cN,d_,c',z,qm,nSd];have wX:=w.grow u.tick.tick;have q:=wX.news (C:=λb _=>qQ (o,l) (pG b k)) H hj hp hjL hMj;exact⟨u.tick.tick.cm.trans q.1,q.2⟩
end
section
variable{S d m n:Nat}{name:ByteArray}{p r:Int}{B b:SV}
def fw(a:List (Int×Int))(v:Bool×Int):Bool×Int:=if v.1=ck/\(cS a v).1=1 then(cd,(cS a v).2) else v
def CT{h:az}(A:cu h){q:List (Int×Int)}(w:Sv h S d m n name p r B b q)(j:rS n v):aY FF 179 [eU (Z ⟨S,0,K⟩),ix ⟨[dC v.1,fc ft v.2]⟩] h (λu i=>u=ix ⟨[dC (fw q v).1,fc ft (fw q v).2]⟩/\ay aR h i):=by
 refine aY.of Fo ?_;unfold wE;have O:¬h.aw=h.aw+1:=ab
 simp[O];refine bh.cut (λh1=>ay aR h h1/\(di h1 h.aw [dC v.1,fc ft v.2])/\di h1 (h.aw+1) [dC cd,fc ft 0]) ⟨((ay.refl A).new _ _).new _ _,⟨0,au O⟩,0,J⟩ ?_;rintro h1⟨l,⟨f,t⟩,z,G⟩;have f:=l.ok.wf _ _ G;refine bh.call (V:=λu i=>u=dG (cS q v)/\ay aR h1 i) (aj (HP l.ok (w.grow A l (λh=>h) (λh=>h)) j)) ?_;rintro _ W⟨rfl,H⟩;have O:=l.trans H;have a:=H.get l.ok t;have o:=H.get l.ok G;have D:=H.aw;have U:¬h.aw=W.aw:=ab
 have E:¬h.aw+1=W.aw:=ab
 have⟨M,e⟩:=v;unfold fw;generalize cS q (M,e)=y at*;have⟨q,X⟩:=y;have f:∀(I:az)(x:List aa),ay aR h I->(di I (h.aw+1) [dC cd,fc ft 0])->ay aR h (put I (h.aw+1) 0 [dC cd,fc ft 0] x 0):=λI x g ⟨s,k⟩=>g.put ⟨_,k⟩ (jZ ab);cases M
 simp[dG,a,o,U,E];exact f _ _ (O.var _ _) ⟨z,by simp[o,E]⟩
 .by_cases c:q=1;subst c;simp[dG,a,o,U,E];exact f _ _ (O.var _ _) ⟨z,by simp[o,E]⟩
  .have M:(q==1)=cd:=aj c
   simp[dG,a,o,U,E,c,M];exact f _ _ (O.var _ _) ⟨z,by simp[o,E]⟩
def Al(a:List (Int×Int))(x:GI):GI:= {x with a:=fw a x.a,b:=fw a x.b,args:=x.args.map (fw a)}
def qF(a:List (Int×Int))(d:Int):Bool:=(pG a d).1==1
def jW(bt:Int)(a:List (Int×Int))(y:GI):Bool:=decide (y.dst<0)||(!qF a y.dst|| !gE bt y.op y.a.1 y.a.2 y.b.1 y.b.2)
def Qy(a:List (Int×Int))(q:GP):GP:=⟨q.dst,q.row.map (fw a)⟩
def Az(bt:Int)(a:List (Int×Int))(b:GB):GB:=⟨(xp (λq=>qF a q.dst) b.bz).map (Qy a),(b.list.map (Al a)).filter (jW bt a),b.kind,fw a b.on,b.to⟩
end
def gq(y:YB)(c:Nat):Prop:=∃l,y.loc l=Z c
structure eD(h0 h:az)(y0 y:YB):Prop where
 w:BZ h y
 i:∀p,kF p y0.loc->kF p y.loc
 s:∀l c,y.loc l=Z c->(∃l0,y0.loc l0=Z c/\(l0.x->l.x))\/h0.aw<=c
 g:ay (gq y0) h0 h
section
variable{m h h':az}{V i j:Nat}{r y d:YB}{B:SV}{s:List YB}{S:Nat->Prop}
def eD.refl(w:BZ h y)(f:cu h):eD h h y y:=⟨w,λ_ h=>h,λl c e=>jZ ⟨l,e,id⟩,.refl f⟩
def eD.py(T:eD m h r y)(g:ay S h h')(a:∀c,S c->gq y c\/m.aw<=c)(w:BZ h' d)(i:∀p,kF p y.loc->kF p d.loc)(s:∀l c,d.loc l=Z c->(∃f,y.loc f=Z c/\(f.x->l.x))\/m.aw<=c):eD m h' r d:=by have H:=T.g.aw;refine⟨w,λp I=>i p (T.i p I),λl c e=>?_,T.g.trans' g ai λc U p=>?_⟩;rcases s l c e with⟨f,H,E⟩|h;exact(T.s f c H).imp (λ⟨u,o,O⟩=>⟨u,o,λh=>E (O h)⟩) id;exact kd h;rcases a c p with⟨l,e⟩|h;rcases T.s l c e with⟨u,o,_⟩|h;exact⟨u,o⟩;omega;omega
def eD.cm(T:eD m h r y)(g:ay aR h h'):eD m h' r y:=T.py g (λ_ h=>h.elim) (T.w.cm T.g.ok g) (λ_ h=>h) λl c e=>jZ ⟨l,e,id⟩
def eD.go(T:eD m h r y)(g:ay S h h')(o:∀c,S c->m.aw<=c/\¬gq y c):eD m h' r y:=
 T.py g (λc f=>kd (o c f).1) (T.w.go T.g.ok g λc l f e=>(o c f).2 ⟨l,e⟩) (λ_ h=>h) λl c e=>jZ ⟨l,e,id⟩
def eD.trans{f:YB}(T:eD m h r y)(U:eD h h' y f):eD m h' r f:=T.py U.g (λ_ h=>jZ h) U.w U.i λl c e=>(U.s l c e).imp id λh=>qN T.g.aw h
def eD.no(T:eD m h r y)(w:c<m.aw)(o:¬gq r c):¬gq y c:=λ⟨l,e⟩=>(T.s l c e).elim (λ⟨u,f,_⟩=>o ⟨u,f⟩) ab
def Tg{p:Prop}{f:Lo->Option Nat}(I:kF p f){a b:Lo}(h1:f a=Z c)(o:f b=Z c)(l:¬a.x):a=b:=(I a b c h1 o).elim id λh=>absurd h.2.1 l
def eD.rowAt(T:eD m h r y)(I:kF True r.loc){d:Int}{ar:List (Bool×Int)}{A:SV}(O:y.ps[j0]?=Z (⟨d,ar⟩,A))(H:ar[j]?=Z v):∃(b:Nat) (l:List aa) (o s:Nat),A.a=Z ⟨b,0,K⟩/\A.l=cz ar/\gq y b/\h.tr.get b=Z (.bZ l cd o s)/\cy h b (j*2) 2=Z [dC v.1,fc ft v.2]/\j*2+2<=cz l/\∀(u:Bool×Int)(E:az),ay aR h E->ay (· =b) E (put E b (j*2) l [dC u.1,fc ft u.2] o)/\eD m (put E b (j*2) l [dC u.1,fc ft u.2] o) r {y with ps:=y.ps.set j0 (⟨d,ar.set j u⟩,A)} :=by
 have q:=T.g.ok;have p:=T.w;have n:=(cY.mp O).1;have f:eM cZ h A ar:=p.ps _ (cO O);obtain⟨b,l,o,s,p,g,i,i,W,z⟩:=f.el H;have H:=W 0 2 ag;have W:=i 0 2 ag;simp at W;simp[-ax] at H;have i:y.loc (.R j0)=Z b:=by rw[YB.jr O];exact cD p
 refine⟨b,l,o,s,p,f.len,⟨_,i⟩,g,H,W,λu E H=>?_⟩;have f:=H.get q g;have g:=bc (off:=j*2) (vs:=[br u.1,aA ft u.2]) H.ok f;have p:=z u 0 [br u.1,aA ft u.2] J rfl (put E b (j*2) l [br u.1,aA ft u.2] o) ⟨E.clock,J⟩;refine⟨g,?_⟩;generalize put E b (j*2) l [br u.1,aA ft u.2] o=h4 at*;have U:=T.cm H;have E:=U.w;have W:=U.i True I;have no:∀l,l≠ .R j0->∀c,c=b->y.loc l≠Z c:=λl V c f e=>V (Tg (a:=.R j0) W (f▸i) e (λh=>h)).symm;have T:∀l,l≠ .R j0->({y with ps:=y.ps.set j0 (⟨d,ar.set j u⟩,A)} :YB).loc l=y.loc l:=λl V=>by
  cases l with
  |R k=>simp only[YB.loc];rw[fO,bM (λe=>V (by rw[e]))]
  |_=>rfl
 have b:({y with ps:=y.ps.set j0 (⟨d,ar.set j u⟩,A)} :YB).loc (.R j0)=y.loc (.R j0):=by rw[YB.jr O];simp[YB.loc,n]
 have W:∀l,({y with ps:=y.ps.set j0 (⟨d,ar.set j u⟩,A)} :YB).loc l=y.loc l:=λl=>by by_cases e:l=.R j0;rw[e,b];exact T l e
 refine U.py g (λc f=>jZ (f▸⟨_,i⟩)) ⟨(E.P.go H.ok g λc f=>no .P nofun c f).YS ?_,E.L.go H.ok g λc f=>no .L nofun c f,E.T.go H.ok g λc f=>no .T nofun c f,λz T=>?_,λx i=>?_⟩ (λb I a b c h1 u=>I a b c (by rw[<-W];exact h1) (by rw[<-W];exact u)) λl c e=>jZ ⟨l,by rw[<-W];exact e,id⟩;rw[cL];have:y.ps.map jf.enc=(y.ps.map jf.enc).set j0 (jf.enc (⟨d,ar⟩,A)):=(Bo (by rw[gM,O];rfl)).symm;rw[this,xh];rfl
 have⟨k,w⟩:=iG T;rw[fO] at w;by_cases e:j0=k;rw[bK e,bK n] at w;cases w;exact p;rw[bM e] at w;exact(E.ps z (cO w)).go H.ok g λc f=>by rw[<-YB.jr (y:=y) w];exact no (.R k) (λz=>by cases z;exact e Q) c f
 .have⟨k,w⟩:=iG i;exact(E.ls x i).go H.ok g λc f=>by rw[<-YB.kY (y:=y) w];exact no (.X k) nofun c f
def eD.amq(T:eD m h r y)(I:kF False r.loc){x:GI}{A:SV}(O:y.ls[j0]?=Z (x,A))(H:x.args[j]?=Z v):∃(b:Nat) (l:List aa) (o s:Nat),A.a=Z ⟨b,0,K⟩/\A.l=cz x.args/\gq y b/\h.tr.get b=Z (.bZ l cd o s)/\cy h b (j*2) 2=Z [dC v.1,fc ft v.2]/\j*2+2<=cz l/\∀(u:Bool×Int)(E:az),ay aR h E->ay (· =b) E (put E b (j*2) l [dC u.1,fc ft u.2] o)/\eD m (put E b (j*2) l [dC u.1,fc ft u.2] o) r { y with ls:=y.ls.set j0 ({x with args:=x.args.set j u},A) } :=by
 have p:=T.g.ok;have i:=T.w;have g:=(cY.mp O).1;have f:eM cZ h A x.args:=i.ls _ (cO O);obtain⟨b,l,o,s,i,d,z,z,W,n⟩:=f.el H;have H:=W 0 2 ag;have W:=z 0 2 ag;simp at W;simp[-ax] at H;have z:y.loc (.X j0)=Z b:=by rw[YB.kY O];exact cD i
 refine⟨b,l,o,s,i,f.len,⟨_,z⟩,d,H,W,λu E H=>?_⟩;have f:=H.get p d;have d:=bc (off:=j*2) (vs:=[br u.1,aA ft u.2]) H.ok f;have i:=n u 0 [br u.1,aA ft u.2] J rfl (put E b (j*2) l [br u.1,aA ft u.2] o) ⟨E.clock,J⟩;refine⟨d,?_⟩;generalize put E b (j*2) l [br u.1,aA ft u.2] o=h4 at*;have U:=T.cm H;have E:=U.w;have W:=U.i False I;have no:∀l,l≠ .X j0->∀c,c=b->y.loc l≠Z c:=λl V c f e=>V ((W l (.X j0) c e (f▸z)).elim id λh=>h.1.elim);have T:∀l,l≠ .X j0->({ y with ls:=y.ls.set j0 ({x with args:=x.args.set j u},A) } :YB).loc l=y.loc l:=λl V=>by
  cases l with
  |X k=>simp only[YB.loc];rw[fO,bM (λe=>V (by rw[e]))]
  |_=>rfl
 have b:({ y with ls:=y.ls.set j0 ({x with args:=x.args.set j u},A) } :YB).loc (.X j0)=y.loc (.X j0):=by rw[YB.kY O];simp[YB.loc,g]
 have W:∀l,({ y with ls:=y.ls.set j0 ({x with args:=x.args.set j u},A) } :YB).loc l=y.loc l:=λl=>by by_cases e:l=.X j0;rw[e,b];exact T l e
 refine U.py d (λc f=>jZ (f▸⟨_,z⟩)) ⟨E.P.go H.ok d λc f=>no .P nofun c f,(E.L.go H.ok d λc f=>no .L nofun c f).YS ?_,E.T.go H.ok d λc f=>no .T nofun c f,λz u=>?_,λz u=>?_⟩ (λp I a T c h1 b=>I a T c (by rw[<-W];exact h1) (by rw[<-W];exact b)) λl c e=>jZ ⟨l,by rw[<-W];exact e,id⟩;rw[cL];have:y.ls.map ia.enc=(y.ls.map ia.enc).set j0 (ia.enc (x,A)):=(Bo (by rw[gM,O];rfl)).symm;rw[this,xh];rfl
 .have⟨k,w⟩:=iG u;exact(E.ps z u).go H.ok d λc f=>by rw[<-YB.jr (y:=y) w];exact no (.R k) nofun c f
 have⟨k,w⟩:=iG u;rw[fO] at w;by_cases e:j0=k;rw[bK e,bK g] at w;cases w;exact i;rw[bM e] at w;exact(E.ls z (cO w)).go H.ok d λc f=>by rw[<-YB.kY (y:=y) w];exact no (.X k) (λd=>by cases d;exact e Q) c f
def eD.x3{ps':List (GP×SV)}{ls':List (GI×SV)}(on:Bool×Int)(T:eD m h r y)(I:kF True r.loc)(H d:Nat->Nat)(C:∀a b,H a=H b->a=b)(D:∀a b,d a=d b->a=b)(x:∀(j:Nat)(f:GP×SV),ps'[j]?=Z f->∃q,y.ps[H j]?=Z q/\f.2=q.2/\f.1.row=q.1.row)(z:∀(j:Nat)(f:GI×SV),ls'[j]?=Z f->∃q,y.ls[d j]?=Z q/\f.2=q.2/\f.1.args=q.1.args)(g:ay (λc=>dt y.P=Z c) h h')(B:eM jf h' P' ps')(n:eM ia h' L' ls')(E:∀c,dt P'=Z c->dt y.P=Z c\/m.aw<=c/\¬gq y c)(v:∀c,dt L'=Z c->dt y.L=Z c\/m.aw<=c/\¬gq y c)(A:∀c,dt P'=Z c->dt L'=Z c->gq y c):eD m h' r {y with P:=P',ps:=ps',L:=L',ls:=ls',on:=on} :=by
 have t:=T.g.ok;have O:=T.w;have s:=T.i True I;have no:∀c l,l≠ .P->dt y.P=Z c->y.loc l≠Z c:=λc l i u e=>i (Tg (a:=.P) s u e (λh=>h)).symm;have s:∀l c,({y with P:=P',ps:=ps',L:=L',ls:=ls',on:=on} :YB).loc l=Z c->y.loc ((l.mR H).mX d)=Z c\/(l=.P/\(m.aw<=c/\¬gq y c)/\dt P'=Z c)\/(l=.L/\(m.aw<=c/\¬gq y c)/\dt L'=Z c):=λl c e=>by
  cases l with
  |P=>exact(E c e).imp id λh=>jZ ⟨Q,h,e⟩
  |L=>exact(v c e).imp id λh=>kd ⟨Q,h,e⟩
  |T=>exact jZ e
  |R j=>
   have⟨f,h1,i⟩:=JT.1 e;have⟨q,o,E,_⟩:=x j f h1;exact jZ (JT.2 ⟨q,o,by rw[<-E];exact i⟩)
  |X j=>
   have⟨f,h1,i⟩:=JT.1 e;have⟨q,o,E,_⟩:=z j f h1;exact jZ (JT.2 ⟨q,o,by rw[<-E];exact i⟩)
 have v:∀l:Lo,((l.mR H).mX d).x↔l.x:=λl=>by cases l<;>exact Iff.rfl
 refine T.py g (λc u=>jZ ⟨.P,u⟩) ⟨B,n,O.T.go t g λc u=>no c .T nofun u,λf n=>?_,λf n=>?_⟩ (λp B a b c h1 i=>?_) λl c e=>?_
 .have⟨k,W⟩:=iG n;have⟨q,o,E,p⟩:=x k f W;rw[E,p];exact(O.ps q (cO o)).go t g λc u=>by rw[<-YB.jr o];exact no c (.R (H k)) nofun u
 .have⟨k,W⟩:=iG n;have⟨q,o,E,p⟩:=z k f W;rw[E,p];exact(O.ls q (cO o)).go t g λc u=>by rw[<-YB.kY o];exact no c (.X (d k)) nofun u
 rcases s a c h1 with w|⟨w,O,u⟩|⟨w,O,u⟩<;>rcases s b c i with H|⟨H,U,V⟩|⟨H,U,V⟩;exact(B _ _ c w H).imp (λe=>Lo.aDs C a b (Lo.aDt D _ _ e)) λ⟨D,C,B⟩=>⟨D,(v a).1 C,(v b).1 B⟩;exact absurd ⟨_,w⟩ U.2;exact absurd ⟨_,w⟩ U.2;exact absurd ⟨_,H⟩ O.2;exact jZ (w.trans H.symm);exact absurd (A c u V) O.2;exact absurd ⟨_,H⟩ O.2;exact absurd (A c V u) O.2;exact jZ (w.trans H.symm);rcases s l c e with k|k|k;exact jZ ⟨_,k,(v l).1⟩;exact kd k.2.1.1;exact kd k.2.1.1
def idI(a b:Nat)(h:id a=id b):a=b:=h
def amy{c:Type}(f:c->c)(p:c->Bool)(xs:List c):∃b:Nat->Nat,(∀a l,b a=b l->a=l)/\∀(j:Nat)(l:c),((xs.map f).filter p)[j]?=Z l->∃q,xs[b j]?=Z q/\l=f q:=by have⟨b,w,o⟩:=Yq p (xs.map f);refine⟨b,w,λj l h=>?_⟩;rw[o j (cY.mp h).1,gM] at h;have⟨q,h1,u⟩:=ed.1 h;exact⟨q,h1,u.symm⟩
def OZ.py(w:OZ h V s)(H:cu h)(b:V<=h.aw)(b:s[i]?=Z y)(T:eD h h' y d):OZ h' V (s.set i d):=by
 have u:=(cY.mp b).1;have p:∀l,dV cM (s.set i d) (Z (i,l))=d.loc l:=λl=>by simp[dV,u]
 have g:∀(o:Option (Nat×Lo))(c:Nat),dV cM (s.set i d) o=Z c->(∃l,o=Z (i,l)/\d.loc l=Z c)\/((∀l,o≠Z (i,l))/\dV cM s o=Z c):=λo c I=>by
  match o with
  |none=>cases I
  |some (k,l)=>
   by_cases e:k=i;subst e;rw[p] at I;exact jZ ⟨l,Q,I⟩;refine kd ⟨λp m=>by cases m;exact e Q,?_⟩;simp only[dV] at I⊢;rwa [fO,bM (cE e)] at I
 have n:=w.inj.r b;have m:∀(l:Lo)(c:Nat)(o:Option (Nat×Lo)),d.loc l=Z c->dV cM s o=Z c->∃f,o=Z (i,f):=λl c o h1 j=>by rcases T.s l c h1 with⟨f,O,_⟩|O;exact⟨f,(w.inj o (Z (i,f)) c j (by rw[cC b];exact O)).elim id λh=>h.1.elim⟩;have:=w.lt H j;omega
 refine⟨λz E=>?_,λa j c q W=>?_,λo c e=>?_⟩;rcases iG E with⟨k,E⟩;rw[fO] at E;by_cases e:i=k;rw[bK e,bK u] at E;cases E;exact T.w;rw[bM e] at E;refine(w.r z (cO E)).go H T.g λc l ⟨p,u⟩ H=>?_;rcases w.inj (Z (k,l)) (Z (i,p)) c (by rw[cC E];exact H) (by rw[cC b];exact u) with h|h;cases h;exact e rfl;exact h.1;rcases g a c q with⟨E,rfl,H⟩|⟨q,H⟩;rcases g j c W with⟨U,rfl,u⟩|⟨p,u⟩;exact(T.i _ n E U c H u).imp (λh=>by rw[h]) λh=>h.1.elim;have⟨f,e⟩:=m E c j H u;exact absurd e (p f);rcases g j c W with⟨U,rfl,u⟩|⟨p,u⟩;have⟨f,e⟩:=m U c a u H;exact absurd e (q f);exact w.inj a j c H u;rcases g o c e with⟨l,rfl,p⟩|⟨_,p⟩;rcases T.s l c p with⟨f,O,_⟩|O;exact w.new (Z (i,f)) c (by rw[cC b];exact O);omega;exact w.new o c p
end
section
variable{S d m:Nat}{name:ByteArray}{p r:Int}{B AH:SV}{aF:Nat}{fx:List (Int×Int)}{Y:Nat}
structure Tz(h:az)(y:YB)(S d m aF Y:Nat)(name:ByteArray)(p r:Int)(B AH:SV)(fx:List (Int×Int)):Prop where
 v:Sv h S d m aF name p r B AH fx
 hY:di h Y [eU (Z ⟨S,0,K⟩)]
 nS:¬gq y S
 nd:¬gq y d
 nY:¬gq y Y
def Tz.low{h:az}(k:Tz h y S d m aF Y name p r B AH fx)(f:cu h):S<h.aw/\d<h.aw/\Y<h.aw:=by have⟨E,cx,h1⟩:=k.v.hS;have⟨w,l⟩:=k.v.hd;have⟨u,o⟩:=k.hY;exact⟨f.wf _ _ h1,f.wf _ _ l,f.wf _ _ o⟩
def Tz.kz{h b:az}{y e:YB}(k:Tz h y S d m aF Y name p r B AH fx)(f:cu h)(T:eD h b y e):Tz b e S d m aF Y name p r B AH fx:=by have⟨l,o,w⟩:=k.low f;have⟨v,⟨s,u⟩,a,b,c⟩:=k;exact⟨v.grow f T.g a b,⟨s,T.g.get f u c⟩,T.no l a,T.no o b,T.no w c⟩
def asG:List Nat:=[10,11,40,41,42,43,44,45,46,47,48,49,50,51,52]
def azY(h:az)(y:YB)(fx:List (Int×Int))(j0:Nat)(l:Int)(A:SV)(row:List (Bool×Int))(e:Env)(f:Nat)(a:Env)(b:az):Prop:=
 ∃j:Nat,f=cz row-j/\j<=cz row/\aG asG e a/\bC a 40 j/\eD h b y (gW y j0 l A ((row.take j).map (fw fx)++row.drop j))
def afm{h:az}(b:cu h)(l:BZ h y)(I:kF True y.loc)(k:Tz h y S d m aF Y name p r B AH fx){f:Int}{A:SV}(N:y.ps[j0]?=Z (⟨f,row⟩,A))(hr:∀v∈row,rS aF v)(z:cz row<=1048576){X x:Nat}(t:eR h X o x)(L:¬gq y X)(g:(o.drop 1).take 1=[A.v])(O:bU e 3 Y)(W:bU e 9 X)(P:bY e 38=A.v)(u:bC e 39 (cz row))(n:bC e 40 0)(C':∀c i,aG asG e c->eD h i y (gW y j0 f A (row.map (fw fx)))->U (.exit 2) c i):aK FF (.loop kP) e h U:=by
 have H:=(cY.mp N).1;have q:gW y j0 f A ((row.take 0).map (fw fx)++row.drop 0)=y:=by unfold gW;rw[show y.ps.set j0 (⟨f,(row.take 0).map (fw fx)++row.drop 0⟩,A)=y.ps from Bo N]
 refine aK.loop (azY h y fx j0 f A row e) ?_ (n:=cz row) ⟨0,Q,ab,aG.refl _ _,n,by rw[q];exact .refl l b⟩;rintro n c i⟨j,rfl,T,C,D,T⟩;have E:=T.g.ok;have F:=k.kz b T;have q:=C.at O;have a:=C.at W;have N:=C.at P;have V:=C.at u;have z:=T.g.get b t L;have n:=b.wf _ _ t;have c:1+1<=cz o:=by have:=congrArg bW g;simp at this;omega
 unfold kP;by_cases O:j<cz row
 .have wj:=ch ((j:Int)+1) ab ab;have⟨v,W⟩:=aQ row j O;have⟨l,P⟩:∃l,l=(row.take j).map (fw fx)++row.drop j:=⟨_,Q⟩;have n:cz ((row.take j).map (fw fx))=j:=by simp;omega
  have u:l[j]?=Z v:=by rw[P,fC n,W]
  have t:cz l=cz row:=by rw[P];simp;omega
  rw[<-P] at T;obtain⟨b,L,L,s,L,G,M,M,rd,hf,aaF⟩:=T.rowAt I (j0:=j0) (d:=f) (ar:=l) (A:=A) (by simp[gW,H]) u;rw[t] at G;simp at N;rw[L,G] at N;have H:(o.drop 1).take 1=[dB (Z ⟨b,0,K⟩) (cz row) A.c]:=by rw[g];simp[L,G]
  have G:cy i X 1 1=Z [dB (Z ⟨b,0,K⟩) (cz row) A.c]:=by rw[dx z c,H]
  have c:=E.cg z;have b:=E.st _ _ _ _ _ z;have H:=c.lt;have L:¬X=i.aw:=ab
  have⟨w,H⟩:=F.hY;have t:=E.cg H;have g:cy i Y 0 1=Z [eU (Z ⟨S,0,K⟩)]:=by rw[dx H J];rfl
  have X:=t.lt;have u:¬Y=i.aw:=ab
  simp[q,a,N,V,D,O,rd,G,g,c,t,L,u,-ax,aH,cn,bj,aI];refine bS.cut (λq=>ay aR i q) ((ay.refl E).var _ _).tick ?_;intro q H;have b:=F.v.grow E H (λh=>h) (λh=>h);have X:=H.get E z;refine bS.call (V:=λu i=>u=ix ⟨[dC (fw fx v).1,fc ft (fw fx v).2]⟩/\ay aR q i) (aj (CT H.ok b (hr v (cO W)))) ?_;rintro _ h⟨rfl,g⟩;have L:=g.get H.ok X;have c:=(H.trans g).get E M;have⟨E,b⟩:=aaF (fw fx v) h (H.trans g);have t:x<=i.clock+1:=ab
  have⟨u,z⟩:∃u,u=fw fx v:=⟨_,Q⟩;rw[<-z] at b E⊢;simp[a,L,t,O,c,hf,D,wj];refine⟨cz row-(j+1),ab,j+1,Q,O,?_,J,?_⟩
  .exact aq
  .have h:({gW y j0 f A l with ps:=(gW y j0 f A l).ps.set j0 (⟨f,l.set j u⟩,A)} :YB)=gW y j0 f A ((row.take (j+1)).map (fw fx)++row.drop (j+1)):=by unfold gW;dsimp only;rw[xh,P,set_drop n W,kh,W,aL,z];rfl
   rw[h] at b;exact b
 .have:j=cz row:=ab
  subst this;rw[mO,bE,Bx] at T;simp[V,D];exact C' _ _ (aG.set C) T
def yn(y:YB)(j0:Nat)(x:GI)(A:SV)(row:List (Bool×Int)):YB:= { y with ls:=y.ls.set j0 ({x with args:=row},A) }
def asF:List Nat:=[15,16,74,75,76,77,78,79,80,81,82,83,84,85,86]
def azX(h:az)(y:YB)(fx:List (Int×Int))(j0:Nat)(x:GI)(A:SV)(row:List (Bool×Int))(e:Env)(f:Nat)(a:Env)(b:az):Prop:=
 ∃j:Nat,f=cz row-j/\j<=cz row/\aG asF e a/\bC a 74 j/\eD h b y (yn y j0 x A ((row.take j).map (fw fx)++row.drop j))
def abb{h:az}(O:cu h)(l:BZ h y)(I:kF False y.loc)(k:Tz h y S d m aF Y name p r B AH fx){x:GI}{A:SV}(N:y.ls[j0]?=Z ({x with args:=row},A))(hr:∀v∈row,rS aF v)(b:cz row<=1048576){X M:Nat}(t:eR h X o M)(z:¬gq y X)(g:(o.drop 7).take 1=[A.v])(b:bU e 3 Y)(f:bU e 14 X)(P:bY e 72=A.v)(H:bC e 73 (cz row))(L:bC e 74 0)(C':∀c i,aG asF e c->eD h i y (yn y j0 x A (row.map (fw fx)))->U (.exit 6) c i):aK FF (.loop iW) e h U:=by
 have n:=(cY.mp N).1;have q:yn y j0 x A ((row.take 0).map (fw fx)++row.drop 0)=y:=by unfold yn;rw[show y.ls.set j0 ({x with args:=(row.take 0).map (fw fx)++row.drop 0},A)=y.ls from Bo N]
 refine aK.loop (azX h y fx j0 x A row e) ?_ (n:=cz row) ⟨0,Q,ab,aG.refl _ _,L,by rw[q];exact .refl l O⟩;rintro N c i⟨j,rfl,T,C,D,T⟩;have l:=T.g.ok;have F:=k.kz O T;have E:=C.at b;have q:=C.at f;have N:=C.at P;have V:=C.at H;have H:=T.g.get O t z;have b:=O.wf _ _ t;have t:7+1<=cz o:=by have:=congrArg bW g;simp at this;omega
 unfold iW;by_cases z:j<cz row
 .have wj:=ch ((j:Int)+1) ab ab;have⟨v,P⟩:=aQ row j z;have⟨f,b⟩:∃f,f=(row.take j).map (fw fx)++row.drop j:=⟨_,Q⟩;have a:cz ((row.take j).map (fw fx))=j:=by simp;omega
  have hvj:f[j]?=Z v:=by rw[b,fC a,P]
  have c:cz f=cz row:=by rw[b];simp;omega
  rw[<-b] at T;obtain⟨W,L,u,s,L,G,u,O,u,hf,aaF⟩:=T.amq I (j0:=j0) (x:= {x with args:=f}) (A:=A) (by simp[yn,n]) hvj;rw[c] at G;simp at N;rw[L,G] at N;have c:(o.drop 7).take 1=[dB (Z ⟨W,0,K⟩) (cz row) A.c]:=by rw[g];simp[L,G]
  have g:cy i X 7 1=Z [dB (Z ⟨W,0,K⟩) (cz row) A.c]:=by rw[dx H t,c]
  have c:=l.cg H;have n:=l.st _ _ _ _ _ H;have t:=c.lt;have L:¬X=i.aw:=ab
  have⟨w,n⟩:=F.hY;have t:=l.cg n;have W:cy i Y 0 1=Z [eU (Z ⟨S,0,K⟩)]:=by rw[dx n J];rfl
  have X:=t.lt;have G:¬Y=i.aw:=ab
  simp[E,q,N,V,D,z,u,g,W,c,t,L,G,-ax,aH,cn,bj,aI];refine bS.cut (λW=>ay aR i W) ((ay.refl l).var _ _).tick ?_;intro W E;have n:=F.v.grow l E (λh=>h) (λh=>h);have X:=E.get l H;refine bS.call (V:=λu i=>u=ix ⟨[dC (fw fx v).1,fc ft (fw fx v).2]⟩/\ay aR W i) (aj (CT E.ok n (hr v (cO P)))) ?_;rintro _ n⟨rfl,W⟩;have H:=W.get E.ok X;have F:=(E.trans W).get l O;have⟨O,c⟩:=aaF (fw fx v) n (E.trans W);have t:M<=i.clock+1:=ab
  have⟨u,E⟩:∃u,u=fw fx v:=⟨_,Q⟩;rw[<-E] at c O⊢;simp[q,H,t,z,F,hf,D,wj];refine⟨cz row-(j+1),ab,j+1,Q,z,?_,J,?_⟩
  .exact aq
  .have h:({ yn y j0 x A f with ls:=(yn y j0 x A f).ls.set j0 ({x with args:=f.set j u},A) } :YB)=yn y j0 x A ((row.take (j+1)).map (fw fx)++row.drop (j+1)):=by unfold yn;dsimp only;rw[xh,b,set_drop a P,kh,P,aL,E];rfl
   rw[h] at c;exact c
 .have:j=cz row:=ab
  subst this;rw[mO,bE,Bx] at T;simp[V,D];exact C' _ _ (aG.set C) T
end
set_option maxRecDepth 100000
section
variable{S d m:Nat}{name:ByteArray}{p r:Int}{B z:SV}{aF:Nat}{fx:List (Int×Int)}{t:Nat}
def azS:List Nat:=[87,88,89,90,91,92,93,94,95,96,97,98,99,100,101,102,103,104,105,106,107]
def afd{h:az}(o:cu h)(H:Sv h S d m n name p r B z fx)(u:eR h t [eU (Z ⟨S,0,K⟩)] w)(s:0<=bt/\bt<1000000000){y:GI}{A:SV}(X:y.dst<n){X O:Nat}(f:eR h X [fc ft y.op,fc ft y.dst,dC y.a.1,fc ft y.a.2,dC y.b.1,fc ft y.b.2,fc ft y.fn,A.v] O)(O:bC e 1 bt)(j:bU e 3 t)(l:bU e 14 X)(C:∀E a,aG azS e E->bY E 107=dC (jW bt fx y)->ay aR h a->U .normal E a):aK FF Oi e h U:=by
 have⟨E,cx,g⟩:=H.hS;have⟨E,q⟩:=H.hd;have E:=o.cg g;have E:=o.cg q;have E:=o.cg f;have E:=o.cg u;have E:=g;simp[dW] at E;unfold Oi;by_cases g:0<=y.dst
 .have⟨k,g⟩:∃k:Nat,y.dst=k:=⟨y.dst.toNat,ab⟩;rw[g] at f;have W:k<n:=ab
  have⟨x,b⟩:=aQ fx k (by rw[H.fl];exact W);have i:=Gp q b 0 1 ag;simp[-ax] at i;have I:¬(k:Int)<0:=ab
  have⟨X,H⟩:=x;by_cases c:X=1
  .subst c;simp[O,j,l,f,u,E,W,i,I,-ax,aB f,aB u,aB E,aI];refine bS.cut (λH=>ay aR h H) (bk o) ?_;intro H q;refine bS.call (V:=λv a=>v=dC (gE bt y.op y.a.1 y.a.2 y.b.1 y.b.2)/\ay aR H a) (by simpa [aM] using aaI H q.ok bt y.op k y.a.2 y.b.2 y.fn y.a.1 y.b.1 A.a A.l A.c s) ?_;rintro _ s⟨rfl,s⟩;have h:jW bt fx y= !gE bt y.op y.a.1 y.a.2 y.b.1 y.b.2:=by simp[jW,qF,pG,g,I,b]
   simp;refine C _ _ ?_ (au h) (q.trans s)
   repeat (refine aG.set ?_)
   exact aG.refl _ _
  .have q:(X !=1)=ck:=aj c
   have h:jW bt fx y=ck:=by simp[jW,qF,pG,g,I,b,c]
   simp[O,j,l,f,u,E,W,i,I,c,q,-ax,aB f,aB u,aB E,aI];refine C _ _ ?_ (au h) (bk o)
   repeat (refine aG.set ?_)
   exact aG.refl _ _
 .have h:jW bt fx y=ck:=by simp[jW];exact jZ ab
  have E:y.dst<0:=ab
  simp[O,j,l,f,E,-ax,aB f,aI];refine C _ _ ?_ (au h) (bk o)
  repeat (refine aG.set ?_)
  exact aG.refl _ _
def anN:List Nat:=[12,14,15,16]++(aU 56).map (· +57)
def zP(fx:List (Int×Int))(q:GI×SV):GI×SV:=({q.1 with args:=q.1.args.map (fw fx)},q.2)
def HO(fx:List (Int×Int))(q:GI×SV):GI×SV:=(Al fx q.1,q.2)
def um(bt:Int)(fx:List (Int×Int))(f:List (GI×SV)):List (GI×SV):=(f.map (HO fx)).filter λq=>jW bt fx q.1
def Ol{f:List (GI×SV)}{x:GI×SV}(h:f[j]?=Z x):um bt fx (f.take (j+1))=um bt fx (f.take j)++(if jW bt fx (Al fx x.1) then [HO fx x] else []):=by
 have e:f.take (j+1)=f.take j++[x]:=by rw[kh,h];rfl
 unfold um;rw[e,aL,dQ];congr 1;simp only[xg,List.map_nil,List.filter_cons,List.filter_nil];rfl
def gu(y:YB)(fx:List (Int×Int))(j:Nat):YB:= {y with ls:=(y.ls.take j).map (zP fx)++y.ls.drop j}
def xq(y:YB)(j:Nat)(l:Lo):(gu y fx j).loc l=y.loc l:=by
 cases l with
 |X k=>
  have e:((y.ls.take j).map (zP fx)++y.ls.drop j).map (·.2)=y.ls.map (·.2):=by rw[aL,bL,show((λq:GI×SV=>q.2)∘zP fx)=λq=>q.2 from Q,<-aL,List.take_append_drop]
  have l:∀f:List (GI×SV),((f[k]?).bind λx=>dt x.2)=(((f.map (·.2))[k]?).bind dt):=λf=>by rw[gM];cases f[k]? <;>rfl
  show((((y.ls.take j).map (zP fx)++y.ls.drop j)[k]?).bind λx=>dt x.2)=((y.ls[k]?).bind λx=>dt x.2);rw[l,l,e]
 |_=>rfl
def azU(h:az)(y:YB)(bt:Int)(fx:List (Int×Int))(e:Env)(f:Nat)(a:Env)(b:az):Prop:=
 ∃(j:Nat) (W:SV),f=cz y.ls-j/\j<=cz y.ls/\aG anN e a/\bC a 57 j/\bY a 12=W.v/\bm ia h.aw b W.v (um bt fx (y.ls.take j))/\eD h b y (gu y fx j)
def abd{h:az}(O:cu h)(f:BZ h y)(I:kF False y.loc)(k:Tz h y S d m aF t name p r B z fx)(hw:0<=bt/\bt<1000000000)(N:cz y.ls<=100000)(F:∀q∈y.ls,q.1.dst<aF/\rS aF q.1.a/\rS aF q.1.b/\(∀v∈q.1.args,rS aF v)/\cz q.1.args<=1048576)(i:bC e 1 bt)(b:bU e 3 t)(H:bY e 12=cM.v)(A:bY e 55=y.L.v)(C:bC e 56 (cz y.ls))(G:bC e 57 0)(C':∀V n W,aG anN e V->bY V 12=SV.v W->bm ia h.aw n (SV.v W) (um bt fx y.ls)->eD h n y (gu y fx (cz y.ls))->U (.exit 4) V n):aK FF (.loop kO) e h U:=by
 have E:gu y fx 0=y:=Q;refine aK.loop (azU h y bt fx e) ?_ (n:=cz y.ls) ⟨0,cM,Q,ab,aG.refl _ _,G,H,jZ ⟨Q,Q⟩,by rw[E];exact .refl f O⟩;rintro D V n⟨j,W,rfl,L,M,g,Iw,E,T⟩;have a:=T.g.ok;have u:=k.kz O T;have q1:=M.at i;have G:=M.at b;have b:=M.at A;have q56:=M.at C;have V:=T.g.aw;have ol:∀c,gq (gu y fx j) c->c<h.aw:=λc ⟨L,e⟩=>f.lt O (by rw[<-xq (fx:=fx) y j L];exact e);obtain⟨V,i,i⟩:=k.low O;unfold kO;by_cases N:j<cz y.ls
 .have wj:=ch ((j:Int)+1) ab ab;have⟨⟨x,A⟩,X⟩:=aQ y.ls j N;have⟨hyd,D,l,hyv,vI⟩:=F _ (cO X);dsimp only at hyd D l hyv vI;have qW:cz ((y.ls.take j).map (zP fx))=j:=by simp;omega
  have C:(gu y fx j).ls[j]?=Z (x,A):=by show((y.ls.take j).map (zP fx)++y.ls.drop j)[j]?=_;rw[fC qW,X]
  have V:cz ((gu y fx j).ls)=cz y.ls:=by show((y.ls.take j).map (zP fx)++y.ls.drop j).length=_;simp;omega
  obtain⟨H,i,o,s,F,P,P,P,dg,_⟩:=T.w.L.el C;have P:=T.w.L.len;rw[V] at P;have i:=dg 0 8 ag;simp[-ax] at i;have F:y.L.a=Z ⟨H,0,K⟩:=F;have P:y.L.l=cz y.ls:=P;simp at b;rw[F,P] at b;have⟨w,H⟩:=u.hY;have P:=a.cg H;have V:cy n t 0 1=Z [eU (Z ⟨S,0,K⟩)]:=by rw[dx H J];rfl
  have F:=P.lt;have F:¬t=n.aw:=ab
  simp[q1,G,b,q56,g,N,i,V,P,F,-ax,aH,cn,bj,aI];refine bS.cut (λV=>ay aR n V/\∃s,s<=n.clock+1/\V.tr.get n.aw=Z (.bZ [fc ft x.op,fc ft x.dst,dC x.a.1,fc ft x.a.2,dC x.b.1,fc ft x.b.2,fc ft x.fn,dB A.a A.l A.c] cd 0 s)) ?_ ?_;exact⟨((ay.refl a).var _ _).tick,n.clock,dd _,by simp[aX]⟩;rintro V⟨i,sX,F,dy⟩;have b:=u.v.grow a i (λh=>h) (λh=>h);refine bS.call (V:=λu n=>u=ix ⟨[dC (fw fx x.a).1,fc ft (fw fx x.a).2]⟩/\ay aR V n) (aj (CT i.ok b D)) ?_;rintro _ D⟨rfl,P⟩;have v3:=b.grow i.ok P (λh=>h) (λh=>h);have V:=P.get i.ok dy;have b:=P.get i.ok (i.get a H (λh=>h));have hstY:=a.st _ _ _ _ _ H;have H:w<=n.clock+1:=ab
  simp[G,V,F,b,H];refine bS.call (V:=λu n=>u=ix ⟨[dC (fw fx x.b).1,fc ft (fw fx x.b).2]⟩/\ay aR D n) (aj (CT P.ok v3 l)) ?_;rintro _ H⟨rfl,b⟩;have D:=b.get P.ok V;have u:=b.aw;have u:=P.aw;have V:=i.aw;have V:=(i.trans P).trans b;have i:=b.ok.wf _ _ D;simp[D,F,aX];refine aK.cut (λb=>ay aR n b/\di b n.aw [fc ft x.op,fc ft x.dst,dC (fw fx x.a).1,fc ft (fw fx x.a).2,dC (fw fx x.b).1,fc ft (fw fx x.b).2,fc ft x.fn,dB A.a A.l A.c]) ?_ ?_
  exact⟨(V.put ⟨sX,D⟩ (jZ (fq _))).put ⟨H.clock,by simp[aX]⟩ (jZ (fq _)),H.clock+1,by simp[aX]⟩;rintro b⟨u,H,i⟩;have V:=T.cm u;have H:=k.kz O V;have P:¬gq (gu y fx j) n.aw:=λh=>av (ol _ h)
  refine abb u.ok V.w (V.i False I) H (x:=x) (row:=x.args) C hyv vI i P rfl (au G) J J (by have:=(V.w.ls _ (cO C)).len;simp;exact congrArg _ this) J ?_;intro l H b H;have C:yn (gu y fx j) j x A (x.args.map (fw fx))=gu y fx (j+1):=by unfold yn gu;dsimp only;rw[set_drop qW X,kh,X,aL];rfl
  rw[C] at H;have C:=V.trans H;have V:=k.kz O C;have ol6:∀c,gq (gu y fx (j+1)) c->c<h.aw:=λc ⟨L,e⟩=>f.lt O (by rw[<-xq (fx:=fx) y (j+1) L];exact e);have F:=H.g.get u.ok i P;have f:bY l 1=fc ft bt:=b.at (au q1);have P:bU l 3 t:=b.at (au G);have i:bU l 14 n.aw:=b.at J;have m12:bY l 12=W.v:=b.at (au Iw);have m57:bY l 57=fc ft j:=b.at (au g);have⟨l,L⟩:=V.hY;have D:=E.grow a u ai;have l:=D.grow u.ok H.g (λD O e=>by have:=E.of O;have:=ol D e;omega);simp;refine afd H.g.ok V.v L hw (y:=Al fx x) (A:=A) (by show x.dst<_;exact hyd) (by simpa [Al] using F) (au f) (au P) (by simp[i]) ?_;intro L h7 V f G;have P:=C.cm G;have C:=l.grow H.g.ok G ai;have Io:=G.get H.g.ok F;have p14:bU L 14 n.aw:=V.at (by simp[i]);have n:bY L 12=W.v:=V.at (by simp[m12]);have a:bY L 57=fc ft j:=V.at (au m57);have F:aG anN e L:=by
   refine aG.trans (aG.trans ?_ (b.cU)) (V.cU)
   exact aq
  have l:=Ol (fx:=fx) (bt:=bt) X;dsimp only at l;cases F:jW bt fx (Al fx x)
  .rw[F] at l f;simp[f,a,wj];refine⟨cz y.ls-(j+1),ab,j+1,W,Q,N,?_,J,au n,by rw[l];simpa using C,P⟩
   exact aq
  .rw[F] at l f;simp[f,n,p14,Io];have F:bp ia (aJ h7 (ia.enc (HO fx (x,A))) 0) (dB (Z ⟨h7.aw,0,K⟩) 1 1) [HO fx (x,A)]:=dq (bX _ _ _);have n:=aO G.ok (ia.enc (HO fx (x,A))) 0;have L:=C.grow G.ok n ai;have i:=G.aw;have X:=H.g.aw;have f:=u.aw;have u:cz (um bt fx (y.ls.take j))<=cz y.ls:=by unfold um;refine qN (IW _ _) ?_;simp;omega
   obtain⟨A,u,b,A,u,X⟩:=fg (bytes:=80) n.ok (z:=[fc ft 0,fc ft 0,dC cd,fc ft 0,dC cd,fc ft 0,fc ft 0,dB K 0 0]) rfl L F ab ag (by simp;omega);obtain⟨f,rfl⟩:=bm.E5 A;refine dh (by simpa [Al,HO] using b) ?_;have F:=(P.cm n).go u (λD O=>⟨E.of O,λh=>by have:=E.of O;have:=ol6 D h;omega⟩);simp[a,wj];refine⟨cz y.ls-(j+1),ab,j+1,f,Q,N,?_,J,J,by rw[l];simpa using A,F⟩
   exact aq
 .have:j=cz y.ls:=ab
  subst this;rw[mO] at E;simp[q56,g];exact C' _ _ W (M.set) (au Iw) E T
end
section
variable{S d m:Nat}{name:ByteArray}{p r:Int}{B D:SV}{aF:Nat}{z:List (Int×Int)}{b:Nat}
def ajb{h:az}(f:cu h)(a:Sv h S d m n name p r B D z)(I:eR h b [eU (Z ⟨S,0,K⟩)] w)(O:0<=q.1.dst/\q.1.dst<n):fh FF (.func (.func 178) #[] #[eU (Z ⟨b,0,K⟩)]) [ix ⟨jf.enc q⟩] h (λv E=>v=dC (qF z q.1.dst)/\ay aR h E):=by
 obtain⟨E,cx,E⟩:=a.hS;have⟨h,l⟩:=a.hd;have u:=E;simp[dW] at u;have⟨⟨k,row⟩,A⟩:=q;dsimp only at O;obtain⟨k,rfl⟩:∃h:Nat,k=h:=⟨k.toNat,ab⟩;have o:k<n:=ab
 have⟨x,h⟩:=aQ z k (by rw[a.fl];exact o);have a:=f.cg E;have U:=f.cg l;have V:=f.cg I;have H:=Gp l h 0 1 ag;simp[-ax] at H;refine fh.func ?_;refine aY.of BH ?_;unfold re;have W:qF z (k:Int)=(x.1==1):=by simp[qF,pG,h]
 simp[bj,eY,aB I,aB u,a,V,U,o,H,W,-ax,aI];exact((ay.refl f).new _ _).tick
def asH:List Nat:=[9,10,11,33,34,35,36,37,38,39,40,41,42,43,44,45,46,47,48,49,50,51,52,53]
def Jm(z:List (Int×Int))(q:GP×SV):GP×SV:=(Qy z q.1,q.2)
def xz(y:YB)(z:List (Int×Int))(j:Nat):YB:= {y with ps:=(y.ps.take j).map (Jm z)++y.ps.drop j}
def azV(h:az)(y:YB)(z:List (Int×Int))(e:Env)(f:Nat)(a:Env)(b:az):Prop:=
 ∃j:Nat,f=cz y.ps-j/\j<=cz y.ps/\aG asH e a/\bC a 33 j/\eD h b y (xz y z j)
def abe{h:az}(l:cu h)(w:BZ h y)(I:kF True y.loc)(k:Tz h y S d m aF b name p r B D z)(P:cz y.ps<=100000)(n:∀q∈y.ps,(∀v∈q.1.row,rS aF v)/\cz q.1.row<=1048576)(g:bU e 3 b)(P:bY e 31=y.P.v)(a:bC e 32 (cz y.ps))(O:bC e 33 0)(M:∀V i,aG asH e V->eD h i y (xz y z (cz y.ps))->U (.exit 0) V i):aK FF (.loop kQ) e h U:=by
 have C:xz y z 0=y:=Q;refine aK.loop (azV h y z e) ?_ (n:=cz y.ps) ⟨0,Q,ab,aG.refl _ _,O,by rw[C];exact .refl w l⟩;rintro N V i⟨j,rfl,T,C,u,T⟩;have L:=T.g.ok;have G:=k.kz l T;have E:=C.at g;have f:=C.at P;have h:=C.at a;unfold kQ;by_cases W:j<cz y.ps
 .have F:=ch ((j:Int)+1) ab ab;have⟨⟨⟨x,row⟩,A⟩,H⟩:=aQ y.ps j W;have⟨t,P⟩:=n _ (cO H);dsimp only at t P;have G:cz ((y.ps.take j).map (Jm z))=j:=by simp;omega
  have c:(xz y z j).ps[j]?=Z (⟨x,row⟩,A):=by show((y.ps.take j).map (Jm z)++y.ps.drop j)[j]?=_;rw[fC G,H]
  have n:cz ((xz y z j).ps)=cz y.ps:=by show((y.ps.take j).map (Jm z)++y.ps.drop j).length=_;simp;omega
  obtain⟨O,N,o,s,g,a,X,N,a,_⟩:=T.w.P.el c;have X:=T.w.P.len;rw[n] at X;have g:y.P.a=Z ⟨O,0,K⟩:=g;have X:y.P.l=cz y.ps:=X;have n:=a 0 2 ag;simp[-ax] at n f;rw[g,X] at f;simp[E,f,h,u,W,n,-ax,aH,cn,bj,aI];refine aK.cut (λO=>ay aR i O/\di O i.aw [fc ft x,dB A.a A.l A.c]) ?_ ?_
  exact⟨(ay.refl L).var _ _,i.clock,by simp[aX]⟩;rintro O⟨a,X,X⟩;have T2:=T.cm a;have N:¬gq (xz y z j) i.aw:=λ⟨n,e⟩=>av (T.w.lt L e)
  have n:=(T2.w.ps _ (cO c)).len;refine afm a.ok T2.w (T2.i True I) (k.kz l T2) c t P X N rfl (au E) J J (ak (congrArg _ n)) J ?_;intro X i P t;have g:=P.at (t:=33) (ak u);simp[g,F];refine⟨cz y.ps-(j+1),ab,j+1,Q,W,?_,J,?_⟩
  .refine aG.set (aG.set (aG.trans ?_ (P.cU)))
   exact aq
  .have n:gW (xz y z j) j x A (row.map (fw z))=xz y z (j+1):=by unfold gW xz;dsimp only;rw[set_drop G H,kh,H,aL];rfl
   rw[n] at t;exact T2.trans t
 .have:j=cz y.ps:=ab
  subst this;simp[h,u];exact M _ _ (aG.set C) T
structure Ye(aF:Nat)(b:GB):Prop where
 pl:cz b.bz<=100000
 ll:cz b.list<=100000
 ph:∀q∈b.bz,(0<=q.dst/\q.dst<aF)/\(∀v∈q.row,rS aF v)/\cz q.row<=1048576
 li:∀x∈b.list,x.dst<aF/\rS aF x.a/\rS aF x.b/\(∀v∈x.args,rS aF v)/\cz x.args<=1048576
 on:rS aF b.on
def abc{h:az}(A:cu h)(V:eM eF h B s)(O:s[i]?=Z y)(w':BZ h y)(I:kF False y.loc)(v:Sv h S d m aF name p r B D z)(M:¬gq y S)(N:¬gq y d)(hw:0<=bt/\bt<1000000000)(E:Ye aF y.g):aY FF 116 [eU (Z ⟨S,0,K⟩),fc ft bt,fc ft i] h (λu' h'=>∃k,u'=ix ⟨eF.enc k⟩/\k.g=Az bt z y.g/\eD h h' y k):=by
 have I1:kF True y.loc:=λa b c h1 k=>(I a b c h1 k).imp id λh=>h.1.elim;have own:∀c,gq y c->c<h.aw:=λc ⟨l',e⟩=>w'.lt A e;obtain⟨F,cx,F⟩:=v.hS;have G:=F;simp[dW] at G;obtain⟨f,f,f,f,f,x,u,l,l,_⟩:=V.el O;have V:=l 0 6 ag;simp[-ax] at V;rw[f] at G;have O:=A.cg F;have f:=A.cg x;have lS:=O.lt;have F:¬h.aw=h.aw+1:=ab
 have l:¬S=h.aw:=ab
 have x:¬S=h.aw+1:=ab
 refine aY.of DX ?_;unfold uQ;simp[G,F,l,x,u,V,O,f,-ax,aB G,bj,eY,cn,aH,aI];refine bh.cut (λh1=>ay aR h h1/\(di h1 h.aw [eU (Z ⟨S,0,K⟩)])/\(di h1 (h.aw+1) [dB K 0 0,dB K 0 0,fc ft 0,dC cd,fc ft 0,dB K 0 0])/\di h1 (h.aw+1+1) [dB y.P.a y.P.l y.P.c,dB y.L.a y.L.l y.L.c,fc ft y.kind,dC y.on.1,fc ft y.on.2,dB y.T.a y.T.l y.T.c]) ?_ ?_
 .have G:¬h.aw=h.aw+1+1:=ab
  have e3:¬h.aw+1=h.aw+1+1:=ab
  exact⟨(((ay.refl A).new _ _).new _ _).var _ _,⟨0,by simp[F,G]⟩,⟨0,au e3⟩,_,by simp[aX];rfl⟩
 rintro h1⟨O,⟨w,hY1⟩,⟨sR,t⟩,V,V⟩;have l:=O.ok.wf _ _ V;have l:∀c,h.aw<=c->¬gq y c:=λc o e=>av (own c e)
 have T1:eD h h1 y y:=(eD.refl w' A).cm O;have v1:=v.grow A O (λh=>h) (λh=>h);have x:∀c,¬gq y c->¬bx y.P.v c:=λc o h=>o ⟨.P,dI h⟩;refine bh.call (V:=asc jf (λq=>qF z q.1.dst) y.P y.ps h1) (aj (YY (E:=jf) (p:=λq=>qF z q.1.dst) (y:=.func (.func 178) #[] #[eU (Z ⟨h.aw,0,K⟩)]) (z0:=(⟨0,[]⟩,cM)) Q anZ an0 O.ok T1.w.P (by have:=E.pl;simp[YB.g] at this;omega) (λq u k g=>ajb g.ok (v1.grow O.ok g (x _ M) (x _ N)) (g.get O.ok hY1 (x _ (l _ (fq _)))) (E.ph q.1 (KA u)).1))) ?_;rintro _ k⟨f,P',rfl,W,hP'⟩;have⟨φ',C,n⟩:=Yq (λq:GP×SV=> !qF z q.1.dst) y.ps;have bP':dt P'=dt y.P:=by unfold dt;rw[W]
 have⟨W,H⟩:∃W:YB,W= {y with P:=P',ps:=y.ps.filter (λq=> !qF z q.1.dst)} :=⟨_,Q⟩;have T2:eD h k y W:=by have:=T1.x3 (h':=k) (P':=P') (L':=y.L) (ps':=y.ps.filter (λq=> !qF z q.1.dst)) (ls':=y.ls) y.on I1 φ' id C idI (λj C h=>⟨C,by rw[<-n j (cY.mp h).1];exact h,Q,Q⟩) (λj C h=>⟨C,h,Q,Q⟩) (f.cU λc _ h=>dI h) hP' (T1.w.L.go O.ok f λc o e=>by have:=Tg (a:=.P) (b:=.L) I1 (dI o) e (λh=>h);cases this) (λc h=>jZ (by rw[<-bP'];exact h)) (λc h=>jZ h) (λc _ h=>⟨.L,h⟩);rw[H];exact this
 have I6:=f.get O.ok hY1 (x _ (l _ (fq _)));have tM:=f.get O.ok t (x _ (l _ ab));have dy:=f.get O.ok V (x _ (l _ ab));have V:=O.aw;have V:=f.aw;simp[dy];have V:∀c,h.aw<=c->¬gq W c:=λc o ⟨l',e⟩=>by
  rw[H] at e;cases l' with
  |P=>exact l c o ⟨.P,by rw[<-e];exact bP'.symm⟩
  |R j=>
   have⟨q,t,h4⟩:=JT.1 e;exact l c o ⟨.R (φ' j),JT.2 ⟨q,by rw[<-n j (cY.mp t).1];exact t,h4⟩⟩
  |L=>exact l c o ⟨.L,e⟩
  |T=>exact l c o ⟨.T,e⟩
  |X j=>exact l c o ⟨.X j,e⟩
 refine aK.cut (λt=>ay (· =h.aw+1+1) k t/\di t (h.aw+1+1) [P'.v,dB y.L.a y.L.l y.L.c,fc ft y.kind,dC y.on.1,fc ft y.on.2,dB y.T.a y.T.l y.T.c]) ?_ ?_;exact⟨bc f.ok dy,_,by simp[aX];rfl⟩;rintro t⟨n,sX3,dK⟩;have T3:=T2.go n (λc o=>⟨ab,V c ab⟩);have k1:Tz h1 y S d m aF h.aw name p r B D z:=⟨v1,⟨w,hY1⟩,M,N,l _ (fq _)⟩;have v2:=v1.grow O.ok f (x _ M) (x _ N);have O:S<h.aw/\d<h.aw:=⟨lS,by obtain⟨l,l⟩:=v.hd;exact A.wf _ _ l⟩;have l:Tz t W S d m aF h.aw name p r B D z:=⟨v2.grow f.ok n ab ab,⟨w,n.get f.ok I6 ab⟩,T2.no O.1 M,T2.no O.2 N,V _ (fq _)⟩;have N:=n.get f.ok tM ab;have f:cz W.ps<=cz y.ps:=by rw[H];exact IW _ _
 have f:∀q∈W.ps,q∈y.ps:=λq u=>by rw[H] at u;exact(EL.1 u).1
 have O:P'.l=cz W.ps:=by rw[H];exact hP'.len
 have VB:W.P=P':=by rw[H]
 refine abe n.ok T3.w (T3.i True I1) l (by have:=E.pl;simp[YB.g] at this;omega) (λq u=>(E.ph q.1 (KA (f q u))).2) J (au VB) (au O) J ?_;intro A h4 O U;have M:=T3.trans U;have f:=l.kz n.ok U;have m7:bU A 7 (h.aw+1+1):=O.at J;have m6:bU A 6 (h.aw+1):=O.at J;have m3:bU A 3 h.aw:=O.at J;have x:bY A 1=fc ft bt:=O.at J;have iI:=U.g.get n.ok dK (V _ ab);have Il:=U.g.get n.ok N (V _ ab);have⟨l,O⟩:∃l,l=xz W z (cz W.ps):=⟨_,Q⟩;rw[<-O] at M f;have N:l.ls=y.ls:=by rw[O,H];rfl
 have W:l.L=y.L:=by rw[O,H];rfl
 have hi2:∀c,h.aw<=c->c<t.aw->¬gq l c:=λc o t=>by rw[O];exact U.no t (V c o)
 have V:=n.aw;have V:=n.ok.wf _ _ dK;have V:=U.g.aw;have V:y.L.l=cz y.ls:=w'.L.len;simp[m7,iI];refine abd U.g.ok M.w (M.i False I) f hw (by rw[N];have:=E.ll;simp[YB.g] at this;exact this) (λq u=>E.li q.1 (KA (by rw[<-N];exact u))) (au x) (au m3) (by simp[cM]) (au W) (by simp[V,N]) J ?_;intro x h5 W u t12 V t;have T5:=M.trans t;have p7:bU x 7 (h.aw+1+1):=u.at (au m7);have p6:bU x 6 (h.aw+1):=u.at (au m6);have p3:bU x 3 h.aw:=u.at (au m3);have jQ:=t.g.get U.g.ok iI (hi2 _ ab ab);have uz:=t.g.get U.g.ok Il (hi2 _ ab ab);have k5:=f.kz U.g.ok t;have⟨f,u⟩:=k5.hY;simp at jQ;have nYX:¬h.aw=h.aw+1+1:=ab
 have⟨f,n⟩:∃f,f=gu l z (cz l.ls):=⟨_,Q⟩;rw[<-n] at T5 k5;have aaA:∀c,gq f c↔gq l c:=λc=>by rw[n];unfold gq;simp only[xq]
 simp[p3,p7,t12,jQ,u,nYX];refine bh.cut (λu=>ay (· =h.aw+1+1) h5 u/\di u (h.aw+1+1) [dB P'.a P'.l P'.c,dB W.a W.l W.c,fc ft y.kind,dC y.on.1,fc ft y.on.2,dB y.T.a y.T.l y.T.c]) ?_ ?_;exact⟨bc t.g.ok jQ,_,by simp[aX];rfl⟩;rintro u⟨l,sX6,nz⟩;have T6:=T5.go l (λc o=>⟨ab,λe=>hi2 c ab ab ((aaA c).1 e)⟩);have v6:=k5.v.grow t.g.ok l ab ab;have CK:=l.get t.g.ok uz ab;refine bh.call (V:=λu' h'=>u'=ix ⟨[dC (fw z y.on).1,fc ft (fw z y.on).2]⟩/\ay aR u h') (aj (CT (v:=y.on) l.ok v6 E.on)) ?_;rintro _ h7⟨rfl,u⟩;have T7:=T6.cm u;have Io:=u.get l.ok nz;have hR7:=u.get l.ok CK;have E:¬h.aw+1=h.aw+1+1:=ab
 simp[p6,p7,Io,hR7,E,aX];have l5:=t.g.aw;have l6:=l.aw;have l7:=u.aw;have⟨h8,e8,g8⟩:∃h8,h8=put (put h7 (h.aw+1+1) 3 [dB P'.a P'.l P'.c,dB W.a W.l W.c,fc ft y.kind,dC y.on.1,fc ft y.on.2,dB y.T.a y.T.l y.T.c] [dC (fw z y.on).1,fc ft (fw z y.on).2] 0) (h.aw+1) 0 [dB K 0 0,dB K 0 0,fc ft 0,dC cd,fc ft 0,dB K 0 0] [dB P'.a P'.l P'.c,dB W.a W.l W.c,fc ft y.kind,dC (fw z y.on).1,fc ft (fw z y.on).2,dB y.T.a y.T.l y.T.c] 0/\ay (λb=>b=h.aw+1+1\/b=h.aw+1) h7 h8:=
  ⟨_,Q,((ay.refl u.ok).put ⟨_,Io⟩ (kd (jZ Q))).put ⟨sR,by rw[dO,bM E];exact hR7⟩ (kd (kd Q))⟩
 rw[<-e8];clear e8;have T8:=T7.go g8 (λc o=>⟨ab,λe=>hi2 c ab ab ((aaA c).1 e)⟩);have nW:∀b,bx W.v b->h4.aw<=b:=λb E=>V.of E;have Kt:=((V.grow t.g.ok l (λb E e=>av (nW b E))).grow l.ok u ai).grow u.ok g8 (λb E e=>av (nW b E));rw[N] at Kt;have⟨E,t,u⟩:=amy (HO z) (λq=>jW bt z q.1) y.ls;have l:f.ls=y.ls.map (zP z):=by rw[n];unfold gu;simp[N]
 have N:f.P=P':=by rw[n,O];exact VB
 have b3:∀c,dt P'=Z c->c<h.aw:=λc e=>own c ⟨.P,show dt y.P=Z c by rw[<-bP'];exact e⟩;have T9:=T8.x3 (h':=h8) (P':=P') (L':=W) (ps':=f.ps) (ls':=um bt z y.ls) (fw z y.on) I1 id E idI t (λj C h=>⟨C,h,Q,Q⟩) (λj C h=>by have⟨q,h1,k⟩:=u j C h;refine⟨zP z q,by rw[l,gM,h1];rfl,by rw[k];rfl,by rw[k];rfl⟩) ((ay.refl g8.ok).cU (S:=aR) λ_ _ h=>h.elim) (by have:=T8.w.P;rw[N] at this;exact this) (bm.arr Kt) (λc h=>jZ (by rw[N];exact h)) (λc h=>kd ⟨av (bm.dt V h),λe=>by have:=bm.dt V h;have⟨l',e⟩:=(aaA c).1 e;have:=M.w.lt U.g.ok e;omega⟩) (λc h1 k=>⟨.P,by show dt f.P=_;rw[N];exact h1⟩)
 refine⟨_,?_,?_,T9⟩
 .have F:f.T=y.T:=by rw[n,O,H];rfl
  have G:f.kind=y.kind:=by rw[n,O,H];rfl
  simp[F,G]
 .have F:f.to=y.to:=by rw[n,O,H];rfl
  have G:f.kind=y.kind:=by rw[n,O,H];rfl
  have e3:f.ps=(y.ps.filter λq=> !qF z q.1.dst).map (Jm z):=by rw[n,O,H];simp[gu,xz]
  have A:(um bt z y.ls).map (·.1)=((y.ls.map (·.1)).map (Al z)).filter (jW bt z):=by
   have H:(y.ls.map (·.1)).map (Al z)=(y.ls.map (HO z)).map (·.1):=by rw[bL,bL];rfl
   rw[H];exact(wb (f:=λq:GI×SV=>q.1) (p:=jW bt z)).symm
  have x:((y.ps.filter λq=> !qF z q.1.dst).map (Jm z)).map (·.1)=(xp (λq=>qF z q.dst) (y.ps.map (·.1))).map (Qy z):=by unfold xp;rw[wb,bL,bL];rfl
  simp only[YB.g,Az,F,G,e3,A,x]
end
set_option maxRecDepth 100000
def aDX(f:List Int)(row:List (Bool×Int))(b:Int):List (Bool×Int):=((f.zip row).filter (·.1≠b)).map (·.2)
def ap8(f:List Int)(ps:List GP)(b:Int):List (Bool×Int):=ps.flatMap λp=>aDX f p.row b
def Sg(bs:List GB)(b i:Nat)(x:GB):List (Bool×Int):=ap8 (aN bs i) x.bz b++x.list.flatMap iU++(if i=b then [] else [x.on])
def ar_:List Nat:=[9,11]++(aU 20).map (· +78)
def ayO(h1:az)(d:Int)(a:List (Int×(Bool×Int)))(e:Env)(m:Nat)(b:Env)(c:az):Prop:=
 ∃(j:Nat) (L:SV),m=cz a-j/\j<=cz a/\aG ar_ e b/\bY b 9=L.v/\bC b 11 j/\ay aR h1 c/\bm iF h1.aw c L.v ((a.take j).filter (·.1≠d))
def YX(k:cu h1){E:SV}{b:Int}{d:List (Int×(Bool×Int))}(W:bp iF h1 E.v d)(l:cz d<1000000)(l:bC e 4 b)(m:bY e 10=E.v)(i:bY e 9=cM.v)(u:bC e 11 0)(C:∀h f (L:SV),aG ar_ e h->bY h 9=L.v->ay aR h1 f->bm iF h1.aw f L.v (d.filter (·.1≠b))->U (.exit 4) h f):aK FF (.loop ou) e h1 U:=by
 have o:E.l=cz d:=by have⟨a,H,e,_⟩:=id W;simp at e;exact e.2.1
 refine aK.loop (ayO h1 b d e) ?_ (n:=cz d) ⟨0,cM,Q,ab,aG.refl _ _,i,u,.refl k,jZ ⟨Q,Q⟩⟩;rintro u h f⟨j,L,rfl,u,u,i,H,g,h⟩;have n:=g.ok;have p:=u.at (t:=4) l;have l:=u.at (t:=10) m;unfold ou;by_cases u:j<cz d
 .have m:=ch ((j:Int)+1) ab ab;have⟨x,q⟩:=aQ d j u;obtain⟨O,O,O,w,_,_,O⟩:=(W.cm k g).read q;have W:=O 0 1 ag;have k:=O 0 3 ag;simp[-ax] at W k w;simp at l;rw[w.1,o] at l;have I:(d.take (j+1)).filter (·.1≠b)=(d.take j).filter (·.1≠b)++(if x.1=b then [] else [x]):=by rw[kh,q,dQ];by_cases e:x.1=b<;>simp[e]
  have q:cz ((d.take j).filter (·.1≠b))<=cz (d.take j):=IW _ _;have q:cz (d.take j)<=j:=by simp;omega
  have q:=g.aw;by_cases O:x.1=b
  .rw[bK O,Bx] at I;simp[O,p,l,H,u,W,m,-ax];refine⟨cz d-(j+1),ab,j+1,L,Q,u,?_,au i,J,g,by rw[I];exact h⟩
   exact aq
  .rw[bM O] at I;have q:(x.1 !=b)=ck:=by simp[O]
   simp[q,p,i,l,H,u,W,k,-ax];have V:=aO n (iF.enc x) 0;have k:=h.grow n V ai;have n:bp iF (aJ f (iF.enc x) 0) (dB (Z ⟨f.aw,0,K⟩) 1 1) [x]:=dq (bX _ _ _);have W:(aJ f (iF.enc x) 0).aw=f.aw+1:=Q;obtain⟨f,f,W,f,p,_⟩:=fg (bytes:=24) V.ok (z:=[fc ft 0,dC cd,fc ft 0]) rfl k n ab ag ab;obtain⟨L',rfl⟩:=bm.E5 f;refine dh (aj W) ?_;simp[H,m];refine⟨cz d-(j+1),ab,j+1,L',Q,u,?_,J,J,(g.trans V).trans' p ai (λc p e=>av (h.of e)),by rw[I];exact f⟩
   exact aq
 .have:j=cz d:=ab
  subst this;rw[mO] at h;simp at l;rw[o] at l;simp[l,H];refine C _ _ L ?_ (au i) g h
  exact aq
def Ph(f:List Int)(cg:Int)(b:GB):GB:= {b with bz:=b.bz.map λp=>⟨p.dst,je p.row (aV f cg).toNat⟩}
def Em(bs:List GB)(cg:Int)(to:List Int):List GB:=bs.mapIdx λi b=>if(i:Int)∈to then Ph (aN bs i) cg b else b
def Dl{b:GB}(h:bs[i]?=Z b):(Em bs cg to)[i]?=Z (if(i:Int)∈to then Ph (aN bs i) cg b else b):=by unfold Em;rw[dk,h];rfl
def Hn(bs:List GB)(cg:Int)(to:List Int):cz (Em bs cg to)=cz bs:=by simp[Em]
def ac7{i u:Nat}{b:GB}(h:to[i]?=Z (u:Int))(f:bs[u]?=Z b)(o:(u:Int)≠to1):Em bs cg ((to.take (i+1)).filter (· ≠to1))=(Em bs cg ((to.take i).filter (· ≠to1))).set u (Ph (aN bs u) cg b):=by
 refine BT λm=>?_;rw[fO];have l:=(cY.mp f).1;by_cases e:u=m
 subst e;rw[bK Q,bK (by rw[Hn];exact l),Dl f,bK (by rw[kh,h];simp[o])]
 .rw[bM e];unfold Em;rw[dk,dk];congr 1;funext b';have:((m:Int)∈(to.take (i+1)).filter (· ≠to1))↔((m:Int)∈(to.take i).filter (· ≠to1)):=by rw[kh,h];simp;omega
  simp only[this]
def ac6(h:to[i]?=Z to1):Em bs cg ((to.take (i+1)).filter (· ≠to1))=Em bs cg ((to.take i).filter (· ≠to1)):=by rw[kh,h];simp
def AU(bs:List GB)(b:Nat)(r:GB)(to1:Int):List GB:=
 let d:=Em bs b (r.to.filter (· ≠to1))
 d.set b {(d[b]?).getD r with kind:=2,on:=(cd,0),to:=[to1]}
def Mh{f:List Int}{b:Int}(E:f.Nodup)(u:cz row=cz f)(l:f[k]?=Z b):(f.filter (· ≠b)).zip (je row k)=(f.zip row).filter (·.1≠b):=by
 induction f generalizing row k with
 |nil=>simp at l
 |cons a f I=>
  rcases row with _|⟨v,row⟩;simp at u
  .have o:=oa.1 E;cases k with
   |zero=>
    simp at l;subst l;have H:f.filter (· ≠a)=f:=nw.2 λx E=>by simp;intro e;exact o.1 (e▸E)
    have c:(f.zip row).filter (·.1≠a)=f.zip row:=nw.2 λx E=>by simp;intro e;exact o.1 (e▸(bV (a:=x.1) (b:=x.2) E).1)
    rw[List.zip_cons_cons,da J,da J,H,c];simp[je]
   |succ k=>
    simp at l u;have w:a≠b:=λe=>o.1 (e▸cO l);have:=I o.2 u l;simp[je,w] at this⊢;exact this
section
variable{bs:List GB}{b:Nat}{r:GB}{to1:Int}
def Dk:cz (AU bs b r to1)=cz bs:=by simp[AU,Hn]
def FT(bs:List GB)(b:Nat)(r:GB)(to1:Int)(i:Nat)(x:GB):GB:=
 let y:=if(i:Int)∈r.to.filter (· ≠to1) then Ph (aN bs i) b x else x
 if i=b then {y with kind:=2,on:=(cd,0),to:=[to1]} else y
def YW(h:bs[i]?=Z x):(AU bs b r to1)[i]?=Z (FT bs b r to1 i x):=by have f:=(cY.mp h).1;unfold AU FT;dsimp only;rw[fO,Hn];by_cases e:b=i;subst e;rw[bK Q,bK f,bK Q,Dl h];rfl;rw[bM e,bM (λl=>e l.symm),Dl h]
def Mg(i:Nat)(x:GB):(FT bs b r to1 i x).to=if i=b then [to1] else x.to:=by unfold FT;dsimp only;split;rfl;split<;>rfl
def zU{a:GB}(h:(AU bs b r to1)[i]?=Z a):∃x,bs[i]?=Z x/\a=FT bs b r to1 i x:=by have⟨x,f⟩:=aQ bs i (by rw[<-Dk (bs:=bs) (b:=b) (r:=r) (to1:=to1)];exact(cY.mp h).1);rw[YW f] at h;exact⟨x,f,(gD h).symm⟩
def ac1(u:bs[b]?=Z r)(h1:to1∈r.to)(k:Int):aN (AU bs b r to1) k=(aN bs k).filter λa=>a≠(b:Int)\/k=to1:=by
 refine Bp (iB _ _) ((iB bs k).filter _) λa=>?_;rw[EL,cJ,cJ];constructor
 .rintro⟨i,rfl,E,w,f⟩;obtain⟨x,l,rfl⟩:=zU w;rw[Mg] at f;by_cases e:i=b
  .subst e;rw[bK rfl] at f;rw[u] at l;cases l;have:k=to1:=aj f
   subst this;exact⟨⟨i,Q,r,u,h1⟩,J⟩
  rw[bM e] at f;exact⟨⟨i,Q,x,l,f⟩,by simp;omega⟩
 rintro⟨⟨i,rfl,x,l,f⟩,o⟩;refine⟨i,Q,_,YW l,?_⟩;rw[Mg];by_cases e:i=b;subst e;rw[bK rfl];simp at o;simp[o];rw[bM e];exact f
def Hm(i:Nat)(x:GB):(FT bs b r to1 i x).bz=if(i:Int)∈r.to.filter (· ≠to1) then(Ph (aN bs i) b x).bz else x.bz:=by unfold FT;dsimp only;split<;>split<;>rfl
def aku(E:EB bs)(I:bs[b]?=Z r)(h1:to1∈r.to)(V:bs[i]?=Z x){c:GP}(f:(FT bs b r to1 i x).bz[j]?=Z c):∃p,x.bz[j]?=Z p/\c.dst=p.dst/\cz c.row=cz (aN (AU bs b r to1) i)/\(aN (AU bs b r to1) i).zip c.row=((aN bs i).zip p.row).filter λe=>e.1≠(b:Int)\/(i:Int)=to1:=by
 rw[Hm] at f;rw[ac1 I h1];by_cases o:(i:Int)∈r.to.filter (· ≠to1)
 .rw[bK o] at f;unfold Ph at f;obtain⟨p,O,rfl⟩:=gM .. ▸f|>ed.1;have H:=E.rows i x V p (cO O);have d:(i:Int)≠to1:=by simpa using(EL.1 o).2
  have l:(b:Int)∈aN bs i:=cJ.2 ⟨b,Q,r,I,(EL.1 o).1⟩;have⟨k,h,w,m⟩:=Ar l;have u:=jz bs i;have W:(λa:Int=>decide (a≠(b:Int)\/(i:Int)=to1))=λa=>decide (a≠(b:Int)):=by funext a;simp[d]
  have g:(λa:Int×(Bool×Int)=>decide (a.1≠(b:Int)\/(i:Int)=to1))=λa=>decide (a.1≠(b:Int)):=by funext a;simp[d]
  rw[W,g,h];refine⟨p,O,Q,?_,Mh u H w⟩;have O:=congrArg bW (Mh u H w);dsimp only[E0];rw[qw ab];have:(aN bs i).filter (λa=>decide (a≠(b:Int)))=(aN bs i).erase b:=by rw[u.erase_eq_filter];congr 1;funext a;by_cases e:a=(b:Int)<;>simp[e]
  rw[this,xT l];omega
 .rw[bM o] at f;have H:=E.rows i x V c (cO f);have O:∀a∈aN bs i,a≠(b:Int)\/(i:Int)=to1:=λa u=>by
   by_cases e:(i:Int)=to1;exact kd e
   .refine jZ λw=>?_;subst w;obtain⟨k,m,E,U,E⟩:=cJ.1 u;have:k=b:=ab
    subst this;rw[I] at U;cases U;exact o (EL.2 ⟨E,au e⟩)
  have E:(aN bs i).filter (λa=>decide (a≠(b:Int)\/(i:Int)=to1))=aN bs i:=nw.2 λa u=>decide_eq_true (O a u);have l:((aN bs i).zip c.row).filter (λa=>decide (a.1≠(b:Int)\/(i:Int)=to1))=(aN bs i).zip c.row:=nw.2 λa u=>decide_eq_true (O a.1 (bV (a:=a.1) (b:=a.2) u).1);rw[E];exact⟨c,f,Q,H,by rw[l]⟩
def EB.cut(E:EB bs)(H:bs[b]?=Z r)(h1:to1∈r.to):EB (AU bs b r to1):=by
 refine⟨by rw[Dk];exact E.n1,by rw[Dk];exact E.n50,λw f=>?_,λw f t o=>?_,λi w f U I=>?_,λw f=>?_⟩
 .have⟨i,u⟩:=iG f;obtain⟨x,l,rfl⟩:=zU u;by_cases e:i=b;subst e;refine kd (jZ ⟨?_,to1,by rw[Mg,bK rfl]⟩);unfold FT;simp
  .have a:(FT bs b r to1 i x).kind=x.kind:=by unfold FT;dsimp only;rw[bM e];split<;>rfl
   rw[a,Mg,bM e];exact E.kind x (cO l)
 .have⟨i,u⟩:=iG f;obtain⟨x,l,rfl⟩:=zU u;rw[Mg] at o;rw[Dk];by_cases e:i=b
  .rw[bK e] at o;have:t=to1:=aj o
   subst this;exact E.to r (cO H) t h1
  rw[bM e] at o;exact E.to x (cO l) t o
 obtain⟨x,l,rfl⟩:=zU f;have⟨j,O⟩:=iG I;have⟨p,_,_,t,_⟩:=aku E H h1 l O;exact t
 .have⟨i,u⟩:=iG f;obtain⟨x,l,rfl⟩:=zU u;rw[Hm];have:=E.pl x (cO l);split
  unfold Ph;simpa using this;exact this
end
def IK(bs:List GB)(b:Int)(i:Nat)(p:GP):GP:=⟨p.dst,iP ((iw bs i p.row).filter (·.1≠b)) (cz bs)⟩
def asb:List Nat:=[8,9,10,11]++(aU 60).map (· +55)
def ayM(h1:az)(V:Nat)(B:SV)(s:List YB)(i:Nat)(y:YB)(P:GP->GP)(e:Env)(m:Nat)(f:Env)(a:az):Prop:=
 ∃(j:Nat) (ps:List (GP×SV)),m=cz y.ps-j/\j<=cz y.ps/\aG asb e f/\bC f 8 j/\cV h1 a V B s B (s.set i {y with ps:=ps})/\cz ps=cz y.ps/\∀(k:Nat)(q f:GP×SV),y.ps[k]?=Z q->ps[k]?=Z f->(k<j->f.1=P q.1)/\(j<=k->f=q)
def ac5(t:cu h1){V H:Nat}{z r':Int}(W:FZ h1 V B s)(hn:V<=h1.aw)(O:di h1 H (aC name z r' B))(D:¬cK B s H)(u:EB (s.map YB.g))(l:s[i]?=Z y){b:Nat}(M:bU e 3 H)(S:bC e 4 b)(h:bC e 7 i)(E:bC e 8 0)(C':∀P d ps,aG asb e P->cV h1 d V B s B (s.set i {y with ps:=ps})->ps.map (·.1)=y.g.bz.map (IK (s.map YB.g) b i)->U (.exit 2) P d):aK FF (.loop jy) e h1 U:=by
 have H:=u.n50;rw[AZ] at H;have p:=(cY.mp l).1;have n:(s.map YB.g)[i]?=Z y.g:=by rw[gM,l];rfl
 have eo:=W.A.len;have H:cz y.ps<100000:=by have:=u.pl y.g (cO n);simpa [YB.g] using this
 have H:s.set i {y with ps:=y.ps} =s:=nf l;have⟨l,O⟩:=O;refine aK.loop (ayM h1 V B s i y (IK (s.map YB.g) b i) e) ?_ (n:=cz y.ps) ⟨0,y.ps,Q,ab,aG.refl _ _,E,by rw[H];exact .refl W t,Q,λi q l a b=>⟨λE=>ab,λ_=>by rw[a] at b;cases b;rfl⟩⟩;rintro m P d⟨j,ps,rfl,P,H,P,T,F,W⟩;have I:=T.g.ok;have N:=H.at (t:=3) M;have M:=H.at (t:=4) S;have S:=H.at (t:=7) h;have h:=T.g.get t O D;have⟨O,t⟩:∃O,O=s.set i {y with ps:=ps} :=⟨_,Q⟩;have D:O[i]?=Z {y with ps:=ps} :=by rw[t,fO,bK Q,bK p]
 have H:cz O=cz s:=by rw[t,List.length_set]
 rw[<-t] at T;have A:=T.w.at D;have V':=T.w.view;have X:∀(k:Nat)(x f:GB),(s.map YB.g)[k]?=Z x->(O.map YB.g)[k]?=Z f->f.to=x.to:=λk x f h1 o=>by rw[t,cL,fO] at o;by_cases e:i=k;subst e;rw[bK Q,bK (aj p)] at o;rw[n] at h1;cases h1;cases o;rfl;rw[bM e,h1] at o;cases o;rfl
 have eA:aN (O.map YB.g) i=aN (s.map YB.g) i:=lQ (by rw[AZ,AZ,H]) X i;have two:∀x∈O.map YB.g,cz x.to<=2:=λx f=>by have⟨k,g⟩:=iG f;have⟨G,H⟩:=aQ (s.map YB.g) k (by have:=(cY.mp g).1;rw[AZ] at this⊢;omega);rw[X k G x H g];exact u.two (cO H)
 have X:y.P.l=cz y.ps:=by have:y.P.l=cz ps:=A.P.len;rw[this,F]
 obtain⟨H,H,H,H,G,CI,H,_,H,_⟩:=T.w.A.el D;have C:=H 0 1 ag;simp[-ax] at C;simp[aC] at h;rw[G,eo] at h;rw[X] at C;unfold jy;by_cases H:j<cz y.ps
 .have wj:=ch ((j:Int)+1) ab ab;have⟨q,r⟩:=aQ y.ps j H;have⟨l,m⟩:=aQ ps j;have eq:=(W j q l r m).2 (fq _);subst eq;have hgp:y.g.bz[j]?=Z l.1:=by simp[YB.g,r]
  have pO:=u.rows i y.g n l.1 (cO hgp);have n:=mP (s.map YB.g) i;rw[AZ] at n;obtain⟨bP,cP,oP,n,jk,zk,n,dD,n,eQ⟩:=A.P.el m;have uy:y.P.a=Z ⟨bP,0,K⟩:=jk;have u:=n 0 2 ag;simp[-ax] at u;rw[uy] at C;have n:=I.cg h;have oP':=I.cg zk;have OO:=I.cg CI;simp[N,M,S,P,h,aB h,H,p,C,u,n,oP',OO,aI,aC,-ax];have u:=A.ps l (cO m);have n:ad vR 2 d l.2.v l.1.row:=u.view rfl (λi x y a b=>by rw[a] at b;cases b;rfl);have jl:cz (iw (s.map YB.g) i l.1.row)<1000000:=by unfold iw;rw[List.length_zip];omega
  have A:iw (O.map YB.g) i l.1.row=iw (s.map YB.g) i l.1.row:=by unfold iw;rw[eA]
  refine bS.cut (λo=>ay aR d o/\d.clock<=o.clock) ⟨bk I,dd _⟩ ?_;rintro o⟨u,-⟩;have hHt:=u.get I h;have O:=u.get I CI;have hPt:=u.get I zk;refine bS.call (V:=λv d=>ay aR o d/\∃L:SV,v=L.v/\bm iF o.aw d L.v (iw (s.map YB.g) i l.1.row)) (by simpa [aC,G,eo,A] using FV u.ok (name:=name) (p:=z) (r:=r') (dst:=l.1.dst) (V'.mono I u) (n.mono I u λ_ _ E=>E) (by rw[AZ];omega) (λx f=>av (two x f)) i (by rw[eA];omega)) ?_;rintro _ f⟨z,L,rfl,A⟩;simp;refine YX (E:=L) (b:=b) z.ok (eO A).sl jl (au M) J (by simp[cM]) J ?_;intro f O A A k9 n xZ;have k3:=A.at (t:=3) (ak N);have k4:=A.at (t:=4) (ak M);have k7:=A.at (t:=7) (ak S);have k8:bY f 8=fc ft j:=A.at (ak P);have f:ay aR o O:=z.trans n;have n:=f.get u.ok hHt;have hP4:=f.get u.ok hPt;have W4:=(T.w.cm I u).cm u.ok f;obtain⟨z,z,z,z,M,z,_,_,ahr,_⟩:=W4.A.el D;rw[G] at M;cases M;have M:=ahr 0 1 ag;simp[-ax] at M;rw[uy,X] at M;have oH4:=f.ok.cg n;have ap1:=f.ok.cg z;have aps:cz ((iw (s.map YB.g) i l.1.row).filter (·.1≠(b:Int)))<1000000:=Nat.lt_of_le_of_lt (IW _ _) jl;have stH:=f.ok.st _ _ _ _ _ n;have stB:=f.ok.st _ _ _ _ _ z;simp[k3,k4,k7,k8,k9,n,aB n,p,M,oH4,ap1,aI,-ax];have w:=bk f.ok;have hH5:=w.get f.ok n;have hB5:=w.get f.ok z;have hP5:=w.get f.ok hP4;have z:=(eO xZ).grow f.ok w ai;have n:(tick O).aw=O.aw:=Q;have n:(tick O).clock=O.clock+1:=Q;generalize tick O=h5 at*;refine bS.call (V:=λv d=>ay aR h5 d/\∃L':SV,v=L'.v/\bm cZ h5.aw d L'.v (iP ((iw (s.map YB.g) i l.1.row).filter (·.1≠(b:Int))) (cz s))) (aj (Jt w.ok z.sl aps (cz s) ab)) ?_;rintro _ M⟨O,n,rfl,z⟩;have hH6:=O.get w.ok hH5;have hB6:=O.get w.ok hB5;have hP6:=O.get w.ok hP5;have zm:=dD 1 1 ag;simp at zm;have W6:=(W4.cm f.ok w).cm w.ok O;have⟨bB6,cB6,oB6,sB6,MH,Zo,_,_,ahs,_⟩:=W6.A.el D;rw[G] at MH;cases MH;have G:=ahs 0 1 ag;simp[-ax] at G;rw[uy,X] at G;simp[hH6,stH,stB,hB6,p,H,hP6,zm,k8,wj,G,aB hH6,-ax];have G:=bc (off:=j*2+1) (vs:=[n.v]) O.ok hP6;simp at G;have eP:IK (s.map YB.g) b i l.1=⟨l.1.dst,iP ((iw (s.map YB.g) i l.1.row).filter (·.1≠(b:Int))) (cz s)⟩:=by unfold IK;rw[AZ]
  have X:=eQ (IK (s.map YB.g) b i l.1,n) 1 [n.v] J (by simp[aX,IK]) (put M bP (j*2+1) cP [n.v] oP) ⟨M.clock,J⟩;simp at X;have Ky:ay aR d M:=((u.trans f).trans w).trans O;have d:=((u.trans f).trans w).aw;have f:=T.row (j:=j) hn D m (p':=(IK (s.map YB.g) b i l.1,n)) (Ky.cm.trans (G.cU λc _ e=>jZ ⟨.P,jZ Q,by rw[e];exact cD jk⟩)) X ((by rw[eP];exact eO z:eM cZ M n (IK (s.map YB.g) b i l.1).row).go O.ok G λc G e=>by have:=z.of (nM (eO z) e);have:=I.wf _ _ zk;omega) (λc e=>kd (av (z.of (nM (eO z) e))))
  rw[t,xh] at f;refine⟨cz y.ps-(j+1),ab,j+1,ps.set j (IK (s.map YB.g) b i l.1,n),Q,H,?_,J,aj f,au F,λk a c h1 o=>?_⟩
  .repeat (refine aG.set ?_)
   refine aG.trans ?_ (A.cU)
   exact aq
  rw[fO] at o;by_cases e:j=k;subst e;rw[bK Q,bK ab] at o;cases o;rw[r] at h1;cases h1;exact⟨λ_=>rfl,λE=>ab⟩;rw[bM e] at o;have⟨A,f⟩:=W k a c h1 o;exact⟨λE=>A ab,λE=>f ab⟩
 .have:j=cz y.ps:=ab
  subst this;simp[N,S,P,h,aB h,p,C,-ax];rw[t] at T;refine C' _ _ ps ?_ T (BT λk=>?_)
  .exact aq
  rw[gM,gM];simp only[YB.g,gM];rcases Kz k (cz y.ps) with g|g;have⟨q,r⟩:=aQ y.ps k g;have⟨l,m⟩:=aQ ps k (by rw[F];exact g);rw[r,m];simp only[Eo];rw[(W k q l r m).1 g];rw[xU g,xU (by rw[F];exact g)];rfl
set_option maxRecDepth 100000
def ayR:List Nat:=[53,54,55,56,57,58,59,60,61,62,63,64,65,66,67,68,69]
def ac2{h:az}(l:cu h)(W:FZ h V B s)(G:V<=h.aw){F X1 y i k u:Nat}{p r:Int}(b:eR h F (aC name p r B) u)(u:¬cK B s F){r:YB}(H:s[y]?=Z r)(a:r.ps[i]?=Z q)(I:di h X1 [fc ft q.1.dst,q.2.v])(j:k<cz q.1.row)(p:cz q.1.row<1000000)(p:cz r.ps<1000000)(A:bU e 0 F)(T:bC e 8 y)(n:bC e 9 k)(C:bC e 10 i)(E:bU e 11 X1)(M:∀x f p,aG ayR e x->cV h f V B s B (s.set y {r with ps:=r.ps.set i (⟨q.1.dst,je q.1.row k⟩,p)})->U .normal x f):aK FF Sr e h U:=by
 have⟨x,I⟩:=I;have R:=W.at H;have v:=(cY.mp H).1;have ao2:=(cY.mp a).1;obtain⟨L,x,x,x,x,z,f,f,f,p⟩:=W.A.el H;have d:=f 0 1 ag;simp[-ax] at d;have p:=W.A.len;have f:=b;simp[aC] at f;rw[x,p] at f;have N:=l.st _ _ _ _ _ b;have ZS:=l.st _ _ _ _ _ z;have oF:=l.cg b;obtain⟨X,⟨_,_,m⟩|⟨b,o,p,t,w,O,g,p⟩⟩:=R.ps q (cO a)
 rw[m] at j;simp at j;have m:r.loc (.R i)=Z b:=by rw[YB.jr a];exact cD w
 have PD:cK B s b:=⟨Z (y,.R i),by rw[cC H];exact m⟩;have S:=R.P.len;have D:=ch ((k:Int)+1) ab ab;simp at I;rw[w] at I;have P:o=0\/o=2:=aj p
 unfold Sr;simp[A,T,n,C,E,f,v,d,I,D,-ax,aB f,aB I,aI,bj,oF];refine bS.cut (λd=>ay aR h d/\h.clock<=d.clock) ?_ ?_;exact⟨bk l,dd _⟩;rintro d⟨E,D⟩;have D:=E.get l g;have n:=E.get l z;have v:=E.get l f;refine bS.call (V:=VH q.2 b o (je q.1.row k++(cd,0)::t) (cz q.1.row-1) d) (by simpa [w] using Qf E.ok (F:=q.2) w X (aj O) P D k j ab) ?_;rintro _ d⟨f,rfl,z,D,T,g,s3,D⟩;have dl:=qw j;have A:¬F=b:=λe=>u (e▸PD);have j:¬L=b:=λe=>by have:=W.tQ K (Z (y,.R i)) b (by rw[<-e];exact cD x) (by rw[cC H];exact m);cases this
 have L:=g.get E.ok v A;have SN:=g.get E.ok n j;have x:ay (· =b) h d:=E.cm.trans g;have v:∀c,dt r.P=Z c->c≠b:=λc h e=>by have:=W.KO H .P (.R i) b (by rw[<-e];exact h) m;cases this
 obtain⟨E,u,j,n,n,A,X,C,X,X⟩:=(R.P.go l x (λc h e=>v c e h)).el a;have lP:r.loc .P=Z E:=cD n;have nPb:=v E (cD n);have v:=C 1 1 ag;simp at v;have r:ay (· =E) d (put d E (i*2+1) u [dB f.a f.l f.c] j):=bc g.ok A;have P:=X (⟨q.1.dst,je q.1.row k⟩,f) 1 [dB f.a f.l f.c] J rfl (put d E (i*2+1) u [dB f.a f.l f.c] j) ⟨_,aZ _ _ _ _ _ _⟩;have C:eM cZ (put d E (i*2+1) u [dB f.a f.l f.c] j) f (je q.1.row k):=⟨ab,kd ⟨b,o,s3,(cd,0)::t,by rw[z,w],by rw[T,O];simp[dl];omega,r.get g.ok D (cE nPb),p⟩⟩;simp[L,SN,N,ZS,n,S,ao2,A,v];refine M _ _ f ?_ ((cV.refl W l).row G H a (x.trans' r (λc _ e=>jZ ⟨.R i,kd Q,by rw[e];exact m⟩) (λc _ e=>jZ ⟨.P,jZ Q,by rw[e];exact lP⟩)) P C (λc h=>jZ ?_))
 .repeat (refine aG.set ?_)
  exact aG.refl _ _
 rw[cD w];have C:dt f=Z b:=cD (by rw[z,w]);rw[<-h,C]
def asa:List Nat:=[10,11,48,49,50,51,52,53,54,55,56,57,58,59,60,61,62,63,64,65,66,67,68,69,70]
def ayP(h:az)(V:Nat)(B:SV)(s:List YB)(y:Nat)(r:YB)(k:Nat)(e:Env)(m:Nat)(a:Env)(p:az):Prop:=
 ∃(i:Nat) (d:List (GP×SV)),m=cz r.ps-i/\i<=cz r.ps/\cz d=i/\aG asa e a/\bC a 48 i/\cV h p V B s B (s.set y {r with ps:=d++r.ps.drop i})/\d.map (·.1)=((r.ps.map (·.1)).take i).map λp=>⟨p.dst,je p.row k⟩
def ac4{h:az}(m:cu h)(W:FZ h V B s)(r:V<=h.aw){F y k l r:Nat}{p z:Int}(A:eR h F (aC name p z B) r)(z:¬cK B s F){r:YB}(u:s[y]?=Z r)(f:∀q∈r.ps,cz q.1.row=l)(n:k<l)(n:l<1000000)(n:cz r.ps<1000000)(n:bU e 0 F)(v:bC e 8 y)(E:bC e 9 k)(H:bY e 46=r.P.v)(C:bC e 47 (cz r.ps))(T:bC e 48 0)(G:∀d a b,aG asa e d->cV h a V B s B (s.set y {r with ps:=b})->b.map (·.1)=(r.ps.map (·.1)).map (λp=>⟨p.dst,je p.row k⟩)->U (.exit 2) d a):aK FF (.loop xP) e h U:=by
 have O:=(cY.mp u).1;refine aK.loop (ayP h V B s y r k e) ?_ (n:=cz r.ps) ⟨0,[],Q,ab,Q,aG.refl _ _,T,by rw[show s.set y {r with ps:=[]++r.ps.drop 0} =s from Bo u];exact .refl W m,J⟩;rintro u d a⟨i,d,rfl,u,I,b,u,T,t⟩;have g:=T.g;have j:=g.ok;have D:=b.at n;have M:=b.at v;have v:=b.at E;have o:=b.at H;have w:=b.at C;unfold xP;by_cases n:i<cz r.ps
 .have C:=ch ((i:Int)+1) ab ab;have⟨q,H⟩:=aQ r.ps i n;have p:=fC (qs:=r.ps) I;rw[H] at p;have E:=f q (cO H);have⟨f,E⟩:∃f:YB,f= {r with ps:=d++r.ps.drop i} :=⟨_,Q⟩;rw[<-E] at T;have x:(s.set y f)[y]?=Z f:=by rw[fO,bK Q,bK O]
  have N:f.ps[i]?=Z q:=by rw[E];exact p
  have R:=T.w.at x;have O:eM jf a r.P (d++r.ps.drop i):=by have:=R.P;rw[E] at this;exact this
  obtain⟨W,W,W,W,L,W,W,W,W,P⟩:=O.el p;have p:=W 0 2 ag;simp[-ax] at p;have W:=O.len;have O:cz (d++r.ps.drop i)=cz r.ps:=by simp;omega
  simp at o;rw[L,W,O] at o;simp[o,w,u,v,n,p,-ax,aH,cn,bj,aI];refine aK.cut (λO=>ay aR a O/\(di O a.aw [fc ft q.1.dst,q.2.v])) ?_ ?_;exact⟨(ay.refl j).var _ _,⟨a.clock,by simp[aX]⟩⟩;rintro O⟨O,W⟩;have p:=g.aw;have p:=m.wf _ _ A;have p:∀c,a.aw<=c->¬cK B (s.set y f) c:=λc p h=>av (T.w.mq j h)
  have p:¬cK B (s.set y f) F:=λh=>(T.s F h).elim z ab;have T2:=T.cm O;refine ac2 O.ok T2.w (av T2.g.aw) (F:=F) (X1:=a.aw) (y:=y) (i:=i) (k:=k) (q:=q) (O.get j (g.get m A z)) p x N W ab ab (by rw[E];show(d++r.ps.drop i).length<_;omega) (au D) (au M) (au v) J J ?_;intro v v j v D;have M:=v.at (t:=48) (ak u);have m:=T2.trans D;rw[xh] at m;have D:({f with ps:=f.ps.set i (⟨q.1.dst,je q.1.row k⟩,j)} :YB)= {r with ps:=(d++[(⟨q.1.dst,je q.1.row k⟩,j)])++r.ps.drop (i+1)} :=by rw[E];dsimp only;rw[set_drop I H]
  rw[D] at m;simp[M,C];refine⟨cz r.ps-(i+1),ab,i+1,d++[(⟨q.1.dst,je q.1.row k⟩,j)],Q,n,au I,?_,J,m,?_⟩
  .refine aG.set (aG.set (aG.trans ?_ (v.cU)))
   exact aq
  rw[aL,t,kh,gM,H,aL];simp
 .have:i=cz r.ps:=ab
  subst this;rw[bE,Bx] at T;simp[w,u];exact G _ _ d (aG.set b) T (by rw[t,tK J])
section
variable{d h b:az}{V:Nat}{y:YB}{m B:SV}{r s:List YB}{i:Nat}
def cV.ato{T':SV}{k:Int}{o:Bool×Int}{to':List Int}(T:cV d h V m r B s)(H:V<=d.aw)(H:s[i]?=Z y)(g:ay (λc=>dt B=Z c\/h.aw<=c) h b)(W:eM eF b B (s.set i {y with kind:=k,on:=o,T:=T',to:=to'}))(O:eM encI b T' to')(U:∀c,dt T'=Z c->h.aw<=c):cV d b V m r B (s.set i {y with kind:=k,on:=o,T:=T',to:=to'}):=by
 have u:=T.g.ok;have a:=T.w.at H;have l:=T.g.aw;have no:∀c l,(dt B=Z c\/h.aw<=c)->y.loc l≠Z c:=λc l f e=>by rcases f with f|f;have:=T.w.tQ K (Z (i,l)) c f (by rw[cC H];exact e);cases this;have:=a.lt u e;omega
 have n:∀l,l≠ .T->({y with kind:=k,on:=o,T:=T',to:=to'} :YB).loc l=y.loc l:=λl E=>by
  cases l with
  |T=>exact absurd rfl E
  |_=>rfl
 refine T.step g (λc f=>f.imp (λe=>⟨K,e⟩) (λe=>ab)) (T.w.py u g ab H (λc f o H=>?_) W ⟨a.P.go u g λc f=>no c .P f,a.L.go u g λc f=>no c .L f,O,λq w=>?_,λq w=>?_⟩ (λp O=>O.py .T n λc f l E=>?_) λl c e=>?_);rcases f with e|e;exact jZ (T.w.tQ K o c e H).symm;have:=T.w.lt u H;omega
 have⟨j,I⟩:=iG w;exact(a.ps q w).go u g λc f=>by rw[<-YB.jr I];exact no c (.R j) f
 have⟨j,I⟩:=iG w;exact(a.ls q w).go u g λc f=>by rw[<-YB.kY I];exact no c (.X j) f
 have:=U c f;have:=a.lt u E;omega
 by_cases O:l=.T;subst O;exact kd (U c e);rw[n l O] at e;exact jZ ⟨l,e,id⟩
end
def ayQ(h1:az)(V:Nat)(B:SV)(s:List YB)(l:aa)(F:Nat)(b:Nat)(to1:Int)(T:SV)(to:List Int)(m:Nat)(e:Env)(z:az):Prop:=
 ∃(i:Nat) (f:List YB),m=cz to-i/\i<=cz to/\bU e 0 F/\bC e 1 b/\bC e 2 to1/\bY e 6=l/\bY e 24=T.v/\bC e 25 (cz to)/\bC e 26 i/\cV h1 z V B s B f/\f.map YB.g=Em (s.map YB.g) b ((to.take i).filter (· ≠to1))/\∀(k:Nat)(y z:YB),s[k]?=Z y->f[k]?=Z z->z= {y with ps:=z.ps}
def Qd{h:az}(p:cu h)(W:FZ h V B s)(vo:V<=h.aw){F sF:Nat}{p' rg:Int}(hF:eR h F (aC name p' rg B) sF)(nF:¬cK B s F){b:Nat}{d:YB}(t:s[b]?=Z d)(E:EB (s.map YB.g)){to1:Int} :aY FF 156 [eU (Z ⟨F,0,K⟩),fc ft b,fc ft to1] h (λ_ f=>∃I,cV h f V B s B I/\I.map YB.g=AU (s.map YB.g) b d.g to1):=by
 have CO:=(cY.mp t).1;have Ro:=W.at t;have L:=Ro.T.len;have pM:cz (s.map YB.g)=cz s:=AZ ..;have EM:=E.n50;rw[pM] at EM;have x:∀ {k:Nat} {y:YB},s[k]?=Z y->(s.map YB.g)[k]?=Z y.g:=λh=>by rw[gM,h];rfl
 have hom:=cO (x t);have Ta:d.to.Nodup:=E.nd hom;have aC3:cz d.to<=2:=E.two hom;have jg:=hF;simp[aC] at jg;refine aY.of R3 ?_;unfold Ha;simp[jg];refine bh.call (V:=λv f=>ay aR h f/\∃d' ws,v=dB (Z ⟨d',0,K⟩) (cz s) (cz s)/\lx encI h.aw f d' ws (Edge.df (cw (s.map YB.g)))) (by simpa [aC] using mh p (name:=name) (p:=p') (r:=rg) W.view E.ends) ?_;rintro _ h1⟨l,d',ws,rfl,w1⟩;have W1:=W.cm p l;have vH:=l.get p jg;have Po:=l.get p hF;have⟨bB,cs,oB,sB,fD,CI,ZB,dD,dg,eQ⟩:=W1.A.el t;have BC:=dg 5 1 ag;simp[-ax] at BC;have IZ:=W1.A.len;rw[fD,IZ] at vH;simp[vH,CO,BC,L,-ax,aB vH];have aiZ:(s.map YB.g)=Em (s.map YB.g) b ((d.to.take 0).filter (· ≠to1)):=by refine BT λm'=>?_;unfold Em;rw[dk];simp;rfl
 refine aK.loop (ayQ h1 V B s (dB (Z ⟨d',0,K⟩) (cz s) (cz s)) F b to1 d.T d.to) ?_ (n:=cz d.to)
  ⟨0,s,Q,ab,J,J,J,J,au L,J,J,.refl W1 l.ok,aiZ,λk y z' a b=>by rw[a] at b;cases b;rfl⟩
 rintro m' e' f⟨i,I,rfl,hi,N,q1,M,q6,C,S,U,T,n,HT⟩;have g:=T.g;have G:=g.ok;have vS:cz I=cz s:=by have:=congrArg bW n;simp[Hn] at this;exact this
 have⟨r,w⟩:=aQ I b;have nF1:¬cK B I F:=λh=>(T.s F h).elim nF (by have:=p.wf _ _ hF;have:=l.aw;omega);have rq:=g.get l.ok vH nF;have ux:=g.get l.ok Po nF;unfold C5;by_cases fI:i<cz d.to
 .have wi:=ch ((i:Int)+1) ab ab;have⟨t',z⟩:=aQ d.to i fI;have htb:=E.to _ hom t' (cO z);rw[pM] at htb;obtain⟨u,rfl⟩:∃u:Nat,t'=u:=⟨t'.toNat,ab⟩;have OM:u<cz s:=ab
  have Zu:r.to=d.to/\r.T=d.T:=by
   refine⟨?_,by rw[HT b d r t w]⟩;have h1:(I.map YB.g)[b]?=Z r.g:=by rw[gM,w];rfl
   rw[n,Dl (x t)] at h1;have H:r.g.to=d.g.to:=by rw[<-gD h1];split<;>rfl
   exact H
  have hTs:bp encI f d.T.v d.to:=by have:=(T.w.at w).T.sl;rw[Zu.1,Zu.2] at this;exact this
  have⟨bT,aeh,anY,X7,_,_,Ge⟩:=hTs.read z;have rt:=Ge 0 1 ag;simp[-ax] at rt X7;simp at C;rw[X7.1,L] at C;by_cases eV:(u:Int)=to1
  subst eV;simp[M,C,S,U,fI,rt,wi,-ax];exact⟨cz d.to-(i+1),ab,i+1,I,Q,fI,au N,au q1,au M,au q6,by simp[C,X7.1,L],au S,J,T,by rw[ac6 z];exact n,HT⟩;have⟨D,It⟩:=aQ s u OM;have⟨O,zn⟩:=aQ I u;have apc:(u:Int)∉(d.to.take i).filter (· ≠to1):=λhm=>by
   have⟨j,hj⟩:=iG (EL.1 hm).1;rw[A0] at hj;split at hj;have a1:=(cY.mp hj).2;have a2:=(cY.mp z).2;have:=(eX Ta).1 (a1.trans a2.symm);omega
   cases hj
  have eg:O.g=D.g:=by
   have h1:(I.map YB.g)[u]?=Z O.g:=by rw[gM,zn];rfl
   rw[n,Dl (x It),bM apc] at h1;exact(gD h1).symm
  have QA:=E.ahead (k:=u) ab;have⟨m,A⟩:∃m,m=aN (s.map YB.g) u:=⟨_,Q⟩;rw[<-A] at QA;have⟨wk,QC⟩:=aQ ws u (by rw[w1.len];exact(cY.mp QA).1);have BQ:(b:Int)∈m:=by rw[A];exact cJ.2 ⟨b,Q,d.g,x t,cO z⟩
  have apk:m.Nodup:=by rw[A];exact jz _ _
  have aCE:cz m<=2000:=by have:=mP (s.map YB.g) u;rw[<-A] at this;omega
  have w':=w1.grow l.ok g (λb X h=>av (W.mq p h));have⟨sd,hd⟩:=w'.bZ;have rw6:=Gn hd QC;simp[-ax] at rw6;simp[q6,q1,M,C,S,U,fI,rt,eV,rw6,OM,-ax];have hWs:bp encI f wk.v m:=(w'.acc u wk m QC QA).sl;refine bh.call (V:=λv H=>H=f/\∃k:Nat,v=fc ft k/\m[k]?=Z (b:Int)) (aj (J2 hWs ab BQ)) ?_;rintro _ H⟨rfl,k,rfl,hk⟩;have qm:=(cY.mp hk).1;have tj:aV m b=k:=Aq hk λm' hm e=>by have a1:=(cY.mp hk).2;have a2:=(cY.mp e).2;have:=(eX apk).1 (a1.trans a2.symm);omega
  have⟨YH,vD,OO,sB',X,P,ao4,CM,yh,MT⟩:=T.w.A.el zn;rw[fD] at X;cases X;have rd1:=yh 0 1 ag;simp[-ax] at rd1;have R1:=T.w.at zn;have fW:=R1.P.len;simp[N,rq,OM,rd1,fW,-ax,aB rq];have apm:=cO (x It);have iV:O.ps.map (·.1)=D.ps.map (·.1):=congrArg GB.bz eg;refine ac4 G T.w (by have:=l.aw;have:=g.aw;omega) (F:=F) (y:=u) (k:=k) (l:=cz m) ux nF1 zn (λq hq=>?_) qm ab ?_ (au N) J J (au fW) J J ?_
  .have hm:q.1∈D.g.bz:=by show q.1∈D.ps.map (·.1);rw[<-iV];exact kC.2 ⟨q,hq,Q⟩
   rw[E.rows u D.g (x It) q.1 hm,A]
  have:=E.pl _ apm;have H:=congrArg bW iV;simp at H;simp[YB.g] at this;omega
  intro e4 h4 qs o T4 Mq;have m0:=o.at (t:=0) (ak N);have m1:=o.at (t:=1) (ak q1);have m2:=o.at (t:=2) (ak M);have m6:=o.at (t:=6) (ak q6);have m24:=o.at (t:=24) (ak C);have m25:=o.at (t:=25) (ak S);have m26:=o.at (t:=26) (ak U);simp[m26,wi];refine⟨cz d.to-(i+1),ab,i+1,I.set u {O with ps:=qs},Q,fI,au m0,au m1,au m2,au m6,by simp[m24,X7.1,L],au m25,J,T.trans T4,?_,λk y z' a b=>?_⟩
  rw[cL,n,ac7 z (x It) eV,<-eg,<-A];congr 1;unfold Ph YB.g;simp only[tj,E0];rw[Mq]
  .rw[fO] at b;by_cases e:u=k;subst e;rw[bK Q,bK ab] at b;cases b;have:=HT u y O a zn;rw[this]
   rw[bM e] at b;exact HT k y z' a b
 .have:i=cz d.to:=ab
  subst this;rw[mO] at n;have⟨YH,vD,OO,sB',X,P,ao4,CM,yh,MT⟩:=T.w.A.el w;rw[fD] at X;cases X;have ZS:=G.st _ _ _ _ _ P;have u:=CM 2 4 ag;simp at u;have D:¬bB=f.aw:=av (G.wf _ _ P)
  simp[N,q1,M,S,U,rq,CO,-ax,aB rq,D,P,u,ZS];have⟨H,o⟩:∃H,H=put (aJ f [aA ft to1] 0) bB (b*6+2) vD [fc ft 2,dC cd,fc ft 0,dB (Z ⟨f.aw,0,K⟩) 1 1] OO:=⟨_,Q⟩;rw[<-o];have m:ay aR f (aJ f [aA ft to1] 0):=aO G _ _;have O:=m.get G P;have z:ay (· =bB) (aJ f [aA ft to1] 0) H:=by rw[o];exact bc m.ok O
  have A5:=MT {r with kind:=2,on:=(cd,0),T:=⟨Z ⟨f.aw,0,K⟩,1,1⟩,to:=[to1]} 2 [fc ft 2,dC cd,fc ft 0,dB (Z ⟨f.aw,0,K⟩) 1 1] J rfl H ⟨_,by rw[o];exact aZ _ _ _ _ _ _⟩;have AT:eM encI H ⟨Z ⟨f.aw,0,K⟩,1,1⟩ [to1]:=⟨Q,kd ⟨f.aw,0,0,[],Q,Q,z.get m.ok J (cE D),jZ Q⟩⟩;have T6:=T.ato (k:=2) (o:=(cd,0)) (T':=⟨Z ⟨f.aw,0,K⟩,1,1⟩) (to':=[to1]) (av l.aw) w ((m.cm.trans z).cU (λc _ e=>jZ (by rw[e];exact cD fD))) A5 AT (λc A=>by rw[cD rfl] at A;cases A;omega);refine⟨_,((cV.refl W p).cm l).trans T6,?_⟩;have A:(I.map YB.g)[b]?=Z r.g:=by rw[gM,w];rfl
  unfold AU;dsimp only;rw[cL,n,show d.g.to=d.to from Q,<-n,A];rfl
def CQ(bs:List GB)(b:Nat):List GB:=
 match bs[b]? with
 |some r=>if r.kind=3/\r.on.1=cd then AU bs b r ((r.to[if r.on.2=0 then 1 else 0]?).getD 0) else bs
 |none=>bs
def vJ(bs:List GB):Nat->List GB
 |0=>bs
 |n+1=>CQ (vJ bs n) n
def Li(E:EB bs){b:Nat}{r:GB}(f:bs[b]?=Z r)(l:r.kind=3):∃t u,r.to=[t,u]/\t≠u:=by rcases E.kind r (cO f) with⟨e,_⟩|⟨e,_⟩|⟨_,h⟩;omega;omega;exact h
def EB.jmp(E:EB bs)(b:Nat):EB (CQ bs b):=by unfold CQ;split;rename_i r f;split;rename_i h;have⟨t,u,l,o⟩:=Li E f h.1;refine E.cut f ?_;rw[l];split<;>simp;exact E;exact E
def ahN(bs:List GB)(b:Nat):cz (CQ bs b)=cz bs:=by unfold CQ;split;split;exact Dk;rfl;rfl
def EB.Ti{bs:List GB}(E:EB bs):∀n,EB (vJ bs n)
 |0=>E
 |n+1=>(E.Ti n).jmp n
def Nb(bs:List GB):∀n,cz (vJ bs n)=cz bs
 |0=>rfl
 |n+1=>(ahN _ n).trans (Nb bs n)
def JuZ(h:az)(V:Nat)(B:SV)(s:List YB)(F:Nat)(m:Nat)(e:Env)(a:az):Prop:=
 ∃(i:Nat) (f:List YB),m=cz s-i/\i<=cz s/\bU e 0 F/\bC e 8 (cz s)/\bC e 9 i/\cV h a V B s B f/\f.map YB.g=vJ (s.map YB.g) i
def Wj{h:az}(A:cu h)(W:FZ h V B s)(M:V<=h.aw){F d:Nat}{p l:Int}(r:eR h F (aC name p l B) d)(N:¬cK B s F)(E:EB (s.map YB.g)):aY FF 100 [eU (Z ⟨F,0,K⟩)] h (λ_ p=>∃l,cV h p V B s B l/\l.map YB.g=vJ (s.map YB.g) (cz s)):=by
 have n:=W.A.len;have u:=E.n50;rw[AZ] at u;have z:=r;simp[aC] at z;refine aY.of LZ ?_;unfold Ch;simp[z,n,-ax,aB z];refine aK.loop (JuZ h V B s F) ?_ (n:=cz s) ⟨0,s,Q,ab,J,J,J,.refl W A,Q⟩;rintro m e p⟨i,l,rfl,X,H,w,O,T,M⟩;have g:=T.g;have k:=g.ok;have c:cz l=cz s:=by have:=congrArg bW M;simp[Nb] at this;exact this
 have j:EB (l.map YB.g):=by rw[M];exact E.Ti i
 have v:¬cK B l F:=λh=>(T.s F h).elim N (av (A.wf _ _ r));have x:=g.get A r N;have y:=g.get A z N;unfold Av;by_cases t:i<cz s
 .have E:=ch ((i:Int)+1) ab ab;have⟨r,U⟩:=aQ l i;have z:(l.map YB.g)[i]?=Z r.g:=by rw[gM,U];rfl
  have R:=T.w.at U;have N:=R.T.len;obtain⟨D,m,S,q,d,b,X,W,c,q⟩:=T.w.A.el U;have W:=c 2 4 ag;simp[-ax] at W;rw[d,n] at y;have f:¬D=p.aw:=av (k.wf _ _ b)
  have D:vJ (s.map YB.g) (i+1)=CQ (l.map YB.g) i:=by show CQ (vJ _ i) i=_;rw[M]
  simp[H,w,O,t,y,W,-ax,aB y,aH,cn,bj,aI,k.cg b];refine bh.cut (λI=>ay aR p I/\di I p.aw [fc ft r.kind,dC r.on.1,fc ft r.on.2,r.T.v]) ⟨(ay.refl k).var _ _,⟨p.clock,by simp[aX]⟩⟩ ?_;rintro I⟨a,S,o⟩;simp at o;have T2:=T.cm a;have p:=a.ok;have q:¬(r.g.kind=3/\r.g.on.1=cd)->l.map YB.g=vJ (s.map YB.g) (i+1):=λA=>by rw[D];unfold CQ;rw[z];dsimp only;rw[bM A]
  by_cases b:r.kind=3
  .by_cases L:r.on.1=ck;simp[b,L,o,H,w,O,E,-ax,aB o];exact⟨cz s-(i+1),ab,i+1,l,Q,t,au H,au w,J,T2,q (λh=>by have I:r.on.1=cd:=h.2;rw[L] at I;cases I)⟩
   .have C:r.on.1=cd:=aj L
    have⟨S,u,c,A⟩:=Li j z b;have f:r.to=[S,u]:=c;have P:bp encI I r.T.v r.to:=(T2.w.at U).T.sl;obtain⟨y,y,G,m,_,_,d⟩:=P.read (i:=0) (x:=S) (by rw[f];rfl);have⟨L,G,X,y,_,_,n⟩:=P.read (i:=1) (x:=u) (by rw[f];rfl);have W:=d 0 1 ag;have X:=n 0 1 ag;simp[-ax] at W X m y;rw[m.1] at y;simp at y;have⟨⟨n,P⟩,G⟩:=y;subst n P;have G:r.T.l=2:=by rw[N,f];rfl
    have L:¬cK B l F:=v;have N:=a.get k x;rw[m.1,G] at o;by_cases d:r.on.2=0
    simp[b,C,o,d,H,w,O,W,X,-ax,aB o];refine bh.call (V:=λ_ x=>∃f,cV I x V B l B f/\f.map YB.g=AU (l.map YB.g) i r.g u) (aj (Qd p T2.w (av T2.g.aw) N L U j)) ?_;rintro _ x⟨f,P,y⟩;simp[O,E];refine⟨cz s-(i+1),ab,i+1,f,Q,t,au H,au w,J,T2.trans P,?_⟩;rw[y,D];unfold CQ;rw[z];dsimp only;rw[bK ⟨b,C⟩,show r.g.on.2=0 from d,bK Q,c];rfl
    .have F:(r.on.2 !=0)=ck:=by simp[d]
     simp[b,C,o,d,F,H,w,O,W,X,-ax,aB o];refine bh.call (V:=λ_ x=>∃f,cV I x V B l B f/\f.map YB.g=AU (l.map YB.g) i r.g S) (aj (Qd p T2.w (av T2.g.aw) N L U j)) ?_;rintro _ x⟨f,P,y⟩;simp[O,E];refine⟨cz s-(i+1),ab,i+1,f,Q,t,au H,au w,J,T2.trans P,?_⟩;rw[y,D];unfold CQ;rw[z];dsimp only;rw[bK ⟨b,C⟩,bM (show ¬r.g.on.2=0 from d),c];rfl
  .have v:(r.kind !=3)=ck:=by simp[b]
   simp[v,o,H,w,O,E,-ax,aB o];exact⟨cz s-(i+1),ab,i+1,l,Q,t,au H,au w,J,T2,q (λh=>b h.1)⟩
 .have:i=cz s:=ab
  subst this;simp[w,O];exact⟨l,T,M⟩
section
variable{bs:List GB}{b i:Nat}{r x:GB}{to1:Int}
def aks(E:EB bs)(I:bs[b]?=Z r)(c:bs[i]?=Z x)(O:(i:Int)∈r.to){p:GP}(o:p∈x.bz):IK bs b i p=⟨p.dst,je p.row (aV (aN bs i) b).toNat⟩:=by
 have f:(b:Int)∈aN bs i:=cJ.2 ⟨b,Q,r,I,O⟩;have⟨k,u,d,U⟩:=Ar f;have H:=E.rows i x c p o;have c:=jz bs i;unfold IK iw;rw[<-Mh c H d,u,E0];have l:cz (je p.row k)=cz ((aN bs i).filter (· ≠(b:Int))):=by
  rw[qw ab];have:(aN bs i).filter (λa=>decide (a≠(b:Int)))=(aN bs i).erase b:=by rw[c.erase_eq_filter];congr 1;funext a;by_cases e:a=(b:Int)<;>simp[e]
  rw[this,xT f];omega
 rw[Rj l ((iB bs i).filter _) λa w=>zO (EL.1 w).1]
def akw(E:EB bs)(u:bs[b]?=Z r)(f:bs[i]?=Z x)(w:(i:Int)∈r.to):Em bs b [(i:Int)]=bs.set i {x with bz:=x.bz.map (IK bs b i)} :=by
 have o:=(cY.mp f).1;refine BT λm=>?_;rw[fO];by_cases e:i=m;subst e;rw[bK Q,bK o,Dl f,bK J];unfold Ph;have:(x.bz.map λp=>(⟨p.dst,je p.row (aV (aN bs i) b).toNat⟩:GP))=x.bz.map (IK bs b i):=cc λp l=>(aks E u f w l).symm;rw[this]
 rw[bM e];unfold Em;rw[dk];rcases bs[m]? with _|y;rfl;simp;intro h;omega
end
section
variable{t z:az}{S d m n nb:Nat}{name:ByteArray}{p r:Int}{B b:SV}{M C:List (Int×Int)->List (Int×Int)->Prop}
def aag{h:az}(M:cu h){l:List (Int×Int)}(w:Sv h S d m n name p r B b l){x:GI}{A:SV}(N:rS n x.a)(O:rS n x.b):aY FF 226 [eU (Z ⟨S,0,K⟩),ix ⟨jj x A⟩] h (λv T=>v=dG (qC l x)/\ay aR h T):=by
 refine aY.of Cp ?_;unfold tB;have H:¬h.aw=h.aw+1:=ab
 simp[jj,aM];refine bh.cut (λh1=>ay aR h h1/\(di h1 h.aw [fc ft x.op,fc ft x.dst,dC x.a.1,fc ft x.a.2,dC x.b.1,fc ft x.b.2,fc ft x.fn,dB A.a A.l A.c])/\di h1 (h.aw+1) [fc ft 0,fc ft 0]) ?_ ?_;exact⟨((ay.refl M).new _ _).new _ _,⟨0,au H⟩,0,J⟩;rintro h1⟨I,⟨j,q⟩,a,a⟩;have F:=I.ok.wf _ _ a;refine bh.call (V:=λv T=>v=dC (decide (1<=x.op)&&decide (x.op<=17))/\T=h1) (aj (fM h1 x.op 1 17)) ?_;rintro _ W⟨rfl,e⟩;rw[e];have f:∀(E:az)(i:List aa)(s:Nat),ay aR h E->E.tr.get (h.aw+1)=Z (.bZ [fc ft 0,fc ft 0] cd 0 s)->ay aR h (put E (h.aw+1) 0 [fc ft 0,fc ft 0] i 0):=λE i s g H=>g.put ⟨_,H⟩ (jZ ab);by_cases C:1<=x.op/\x.op<=17
 .have z:=I.ok.cg q;have X:=I.ok.cg a;have y:¬h.aw=h1.aw:=ab
  have i:¬h.aw=h1.aw+1:=ab
  have z:=I.ok.st _ _ _ _ _ q;simp[C,q,y,i];refine bS.cut (λE=>ay aR h1 E/\E.tr.get h1.aw=Z (.bZ [fc ft 0,fc ft 0] cd 0 0)/\E.tr.get (h1.aw+1)=Z (.bZ [fc ft 0,fc ft 0] cd 0 0)) ?_ ?_;exact⟨((bk I.ok).new _ _).new _ _,J,J⟩;rintro E⟨U,L,W⟩;have G:=I.trans U;have V:=U.ok.wf _ _ W;refine bS.call (V:=λu T=>u=dG (cS l x.a)/\ay aR E T) (aj (HP U.ok (w.grow M G (λh=>h) (λh=>h)) N)) ?_;rintro _ X⟨rfl,j⟩;have E:=G.trans j;have P:=(U.trans j).get I.ok q;have D:=j.get U.ok L;have F:=j.get U.ok W;simp[P,z];refine bS.call (V:=λu T=>u=dG (cS l x.b)/\ay aR X T) (aj (HP j.ok (w.grow M E (λh=>h) (λh=>h)) O)) ?_;rintro _ V⟨rfl,H⟩;have X:=E.trans H;have q:=H.get j.ok P;have O:=H.get j.ok D;have E:=H.get j.ok F;have M:=((U.trans j).trans H).get I.ok a;have W:qC l x=xr x.op (cS l x.a) (cS l x.b):=by unfold qC;rw[bK C]
  rw[W];generalize cS l x.a=ya at*;generalize cS l x.b=yb at*;have⟨k,P⟩:=ya;have⟨z,F⟩:=yb;have T:¬h1.aw=h1.aw+1:=ab
  simp[dG,O,E];refine bh.cut (λW=>ay aR h W/\(di W h1.aw [fc ft k,fc ft P])/\(di W (h1.aw+1) [fc ft z,fc ft F])/\W.tr.get h.aw=V.tr.get h.aw/\W.tr.get (h.aw+1)=V.tr.get (h.aw+1)) ?_ ?_
  .have u:¬h.aw+1=h1.aw:=ab
   have L:¬h.aw+1=h1.aw+1:=ab
   exact⟨(X.put ⟨_,O⟩ (jZ ab)).put ⟨0,au E⟩ (jZ ab),⟨V.clock,au T⟩,⟨V.clock+1,J⟩,by simp[y,i],by simp[u,L,y]⟩
  rintro W⟨N,⟨j,y⟩,⟨T,o⟩,u,l⟩;rw[q] at u;rw[M] at l;by_cases H:k=2;subst H;simp[y,o,l];exact⟨by simp[xr],f _ _ _ N l⟩;have j:(k==2)=cd:=fP H;by_cases O:z=2;subst O;simp[y,o,l,H,j];exact⟨by simp[xr],f _ _ _ N l⟩;have i:(z==2)=cd:=fP O;by_cases M:k=0;subst M;simp[y,o,l,O,i];exact⟨by simp[xr,O],f _ _ _ N l⟩;have G:(k==0)=cd:=fP M;by_cases X:z=0;subst X;simp[y,o,l,H,j,M,G];exact⟨by simp[xr,H],f _ _ _ N l⟩;have h:(z==0)=cd:=fP X;simp[y,o,l,u,H,j,O,i,M,G,X,h];refine bh.call (aj (ajc W P F C)) ?_;rintro _ G⟨rfl,u⟩;rw[u];have i:xr x.op (k,P) (z,F)=if(iu x.op P F).2=ck then(1,(iu x.op P F).1) else(2,0):=by simp[xr,H,O,M,X]
  rw[i];generalize iu x.op P F=t;have⟨k,P⟩:=t;cases P;simp[l];exact f _ _ _ N l;simp[l];exact f _ _ _ N l
 .have z:(decide (1<=x.op)&&decide (x.op<=17))=cd:=by by_cases H:1<=x.op;have O:¬x.op<=17:=λc=>C ⟨H,c⟩;simp[O];simp[H]
  simp[z,a];exact⟨by simp[qC,C,dG],f _ _ _ I a⟩
def YR{h:az}(e:cu h){E c:List (Int×Int)}(w:De t z h S d m n nb name p r B b E c cx){E I U O:Nat}{to:Int}(h1:eR h E [eU (Z ⟨S,0,K⟩)] U)(H:eR h I [fc ft to] O)(a:Int):aY FF 223 [fc ft a,eU (Z ⟨E,0,K⟩),eU (Z ⟨I,0,K⟩)] h (λv E=>v=dC (decide ((a,to)∈c))/\ay aR h E):=by
 have⟨s,E⟩:=w.hS;have o:=E;simp[dW] at o;have u:=w.hm;have f:=Tp (a,to) c;simp only[dG] at f;refine aY.of BG ?_;unfold qZ;by_cases l:(a,to)∈c
 simp[l] at f;simp[h1,H,o,u,f,tS,l];exact bk e;simp[l] at f;simp[h1,H,o,u,f,tS,l];exact bk e
def De.add{h:az}{c a:List (Int×Int)}{cx:Bool}(w:De t z h S d m n nb name p r B b c a cx){e:Int×Int}(q:e∉a)(v:0<=e.1/\e.1<nb/\0<=e.2/\e.2<nb)(k:∀i g,M i g->qf c i->(∀x∈a,x∈g)->e∈g){s:Nat}(f:eR h S (dW name p r B b d n m cx) s):zN M C t z S d m n nb name p r B b c a cx h (put (Gm (Gm h m (qh a++[(dG e,dC cd)])) m (qh (a++[e]))) S 7 (dW name p r B b d n m cx) [dC ck] 0):=by
 have j:=w.g.ok;have⟨o,W⟩:=w.hd;have⟨y,I,O⟩:=w.ne;have U:=Qs j (qh a++[(dG e,dC cd)]) w.hm;have l:(Gm h m (qh a++[(dG e,dC cd)])).tr.get m=Z (.map (qh a++[(dG e,dC cd)])):=by rw[qx,bK rfl]
 have E:(Gm h m (qh a++[(dG e,dC cd)])).tr.get S=Z (.bZ (dW name p r B b d n m cx) cd 0 s):=by rw[qx,bM I,f]
 have f:(Gm h m (qh a++[(dG e,dC cd)])).tr.get d=Z (.bZ (jC.flat c) cd 0 o):=by rw[qx,bM O,W]
 generalize Gm h m (qh a++[(dG e,dC cd)])=h1 at*;have j:=Qs U.ok (qh (a++[e])) l;have u:(Gm h1 m (qh (a++[e]))).tr.get m=Z (.map (qh (a++[e]))):=by rw[qx,bK rfl]
 have l:(Gm h1 m (qh (a++[e]))).tr.get S=Z (.bZ (dW name p r B b d n m cx) cd 0 s):=by rw[qx,bM I,E]
 have W:(Gm h1 m (qh (a++[e]))).tr.get d=Z (.bZ (jC.flat c) cd 0 o):=by rw[qx,bM O,f]
 generalize Gm h1 m (qh (a++[e]))=f at*;have H:ay (PQ S d m) h f:=(U.trans j).cU (λx _ e=>kd (kd e));have j:=H.put (off:=7) (vs:=[dC ck]) ⟨s,l⟩ (kd (jZ Q));have O:=w.gi.add q v;refine⟨j,c,a++[e],ck,⟨w.g.trans' j ai (λx l e=>?_),w.gy.trans' j ai (λx l e=>?_),w.nSy,w.nS,w.nd,w.nm,⟨f.clock,by simp[dW]⟩,⟨o,by rw[dO,bM (λe=>y e.symm),W]⟩,by rw[dO,bM (λe=>I e.symm),u],w.fl,w.fk,O,w.ne⟩,?_⟩
 .have:=w.nS;have:=w.nd;have:=w.nm
  rcases e with e|e|e<;>omega
 have:=w.nSy;rcases e with e|e|e;omega;exact jZ e;exact kd e;have:=alS (fx:=c) O;exact⟨ab,λ_ _=>this,λ_=>rfl,λi g h1 f V=>⟨f,λx l=>(kg.1 l).elim (V x) λh=>by simp at h;rw[h];exact k i g h1 f V⟩,λx l=>List.mem_append_left _ l,.refl _,λh=>by cases h⟩
def adp{h:az}{u c:List (Int×Int)}(w:De t z h S d m n nb name p r B b u c cx){a to:Int}(I:0<=a/\a<nb)(g:0<=to/\to<nb)(W:∀E l,M E l->qf u E->(∀x∈c,x∈l)->(a,to)∈l):aY FF 227 [eU (Z ⟨S,0,K⟩),fc ft a,fc ft to] h (λ_ l=>zN M (λ_ c=>(a,to)∈c) t z S d m n nb name p r B b u c cx h l):=by
 have⟨s,u⟩:=w.hS;have o:=u;simp[dW] at o;have E:=w.hm;have l:=Tp (a,to) c;simp only[dG] at l;refine aY.of DV ?_;unfold uO;by_cases f:(a,to)∈c
 simp[f] at l;simp[o,E,l,tS];exact zN.refl w f;simp[f] at l;have U:=amv (a,to) c f;have O:=an7 (a,to) c;have e:=akB (a,to) c;simp only[dG] at U O e;obtain⟨H,H,i⟩:=w.ne;have V:eR h S (dW name p r B b d n m cx) s:=u;simp[o,E,l,tS,U,O,e,Tr.bN,H,V];have H:=w.add (C:=λ_ c=>(a,to)∈c) f ⟨I.1,I.2,g.1,g.2⟩ W u;simp only[dG] at H;exact H
end
section
variable{f hz:az}{S d m n nb:Nat}{name:ByteArray}{p r:Int}{B AH:SV}
structure Ra(hz:az)(d m:Nat)(AH:SV)(ws:List SV)(ah:List (List Int)):Prop where
 len:cz ws=cz ah
 sl:∀h1,ay (DM d m) hz h1->ad (λc (W:SV)=>c=[W.v]) 1 h1 AH.v ws
 row:∀h1,ay (DM d m) hz h1->∀(i:Nat)(W:SV)(xs:List Int),ws[i]?=Z W->ah[i]?=Z xs->ad nR 1 h1 W.v xs
def acZ{h:az}{b g:List (Int×Int)}(w:De f hz h S d m n nb name p r B AH b g cx)(I:Ra hz d m AH ws ah){b:Nat}(s:ah[b]?=Z ps)(y:cz ps<1000000)(y:∀a:Int,(a,(b:Int))∈g->a∈ps):aY FF 176 [eU (Z ⟨S,0,K⟩),fc ft b] h (λv E=>v=dC (jB g b)/\ay aR h E):=by
 have l:=w.g.ok;refine aY.of DU ?_;unfold uN;have H:¬h.aw=h.aw+1:=ab
 by_cases i:b=0;subst i;simp[H];exact⟨by simp[jB],(((ay.refl l).new _ _).new _ _).tick⟩
 .have j:((b:Int)==0)=cd:=fP ab;have U:¬(b:Int)=0:=ab
  obtain⟨q,q⟩:=w.hS;have u:=l.cg q;have O:=u.lt;have u:=q;simp[dW] at u;have q:¬S=h.aw:=ab
  have q:¬S=h.aw+1:=ab
  have O:=ad.len (I.sl h w.gy);have q:b<cz ws:=by rw[I.len];exact(cY.mp s).1
  have⟨W,k⟩:=aQ ws b q;have t:=I.row h w.gy b W ps k s;obtain⟨s,s,s,x,_,_,rfl,s,s⟩:=ad.later l (I.sl h w.gy) k;rw[x,O] at u;have k:ay aR h (tick (aJ (aJ h [eU (Z ⟨S,0,K⟩)] 0) [fc ft b] 0)):=(((ay.refl l).new _ _).new _ _).tick;have O:(tick (aJ (aJ h [eU (Z ⟨S,0,K⟩)] 0) [fc ft b] 0)).tr.get h.aw=Z (.bZ [eU (Z ⟨S,0,K⟩)] cd 0 0):=by simp[H]
  have x:(tick (aJ (aJ h [eU (Z ⟨S,0,K⟩)] 0) [fc ft b] 0)).tr.get (h.aw+1)=Z (.bZ [fc ft b] cd 0 0):=J
  have gS:=k.get l u;have u:=s _ k 0 1 ag;simp only[A1,Nat.mul_one,List.drop_zero,List.take,SV.AA] at u;simp[H,i,j,U,q,u,-ax,aB gS,aB O,aB x];refine bS.cut (λh1=>ay aR h h1/\(di h1 h.aw [eU (Z ⟨S,0,K⟩)])/\di h1 (h.aw+1) [fc ft b]) ?_ ?_
  exact⟨(((ay.refl l).new _ _).new _ _).tick,⟨0,au H⟩,0,J⟩;rintro h1⟨u,⟨H,q⟩,H,i⟩;have H:=w.grow u;refine bS.call (V:=λv E=>v=dC (ps.any λa=>decide ((a,(b:Int))∈g))/\ay aR h1 E) (aj (yE u.ok (T:=W) (t.mono l u λ_ _ e=>e) ab (f:=.func (.func 223) #[] #[eU (Z ⟨h.aw,0,K⟩),eU (Z ⟨h.aw+1,0,K⟩)]) (λa=>decide ((a,(b:Int))∈g)) (λE a o=>fh.func (aj (YR o.ok (H.grow o) (o.get u.ok q) (o.get u.ok i) a))))) ?_;rintro _ E⟨rfl,o⟩;have H:(ps.any λa=>decide ((a,(b:Int))∈g))=jB g b:=by
   unfold jB;rw[j,Bool.false_or,Bool.eq_iff_iff,List.any_eq_true,List.any_eq_true];constructor;rintro⟨a,h1,E⟩;exact⟨(a,(b:Int)),of_decide_eq_true E,J⟩
   .rintro⟨⟨a,c⟩,h1,E⟩;have:c=(b:Int):=aj E
    subst this;exact⟨a,y a h1,decide_eq_true h1⟩
  rw[H];simp;exact u.trans o
end
section
variable{t z:az}{S d m n nb:Nat}{name:ByteArray}{p r:Int}{B G:SV}{M C D F:List (Int×Int)->List (Int×Int)->Prop}
def zN.trans{h h1 f:az}{b l i H:List (Int×Int)}{cx u:Bool}(g:ay (PQ S d m) h h1)(a:Pt M C (nb*nb) b l cx i H u)(j:zN M D t z S d m n nb name p r B G i H u h1 f)(k:C b l->D b l->F b l):zN M F t z S d m n nb name p r B G b l cx h f:=by
 have⟨O,w,E,b,W,l⟩:=j;refine⟨g.trans O,w,E,b,W,?_⟩;refine⟨qN l.pt a.pt,λh1 o=>?_,λh=>l.up (a.up h),λh b I h1 f=>?_,λe U=>l.gr e (a.gr e U),a.gx.trans l.gx,λo=>?_⟩
 .have:=a.pt;have:=l.pt;cases f:u
  have:=l.dn f o;omega;have:=a.dn h1 f;omega
 have⟨o,V⟩:=a.ls h b I h1 f;exact l.ls h b I o V
 .have f:u=cd:=by cases f:u;rfl;rw[l.up f] at o;cases o
  obtain⟨rfl,rfl,c⟩:=a.st f;obtain⟨rfl,rfl,d⟩:=l.st o;exact⟨Q,Q,k c d⟩
def zN.cU{o:List (Int×Int)->List (Int×Int)->Prop}{h h1:az}{c b:List (Int×Int)}{cx:Bool}(a:zN M C t z S d m n nb name p r B G c b cx h h1)(H:∀g f,o g f->(∀e∈b,e∈f)->M g f)(k:C c b->D c b):zN o D t z S d m n nb name p r B G c b cx h h1:=by have⟨u,f,l,w,I,E⟩:=a;exact⟨u,f,l,w,I,E.cU H k⟩
def SrL:List Nat:=[7,8,37,38,39,40,41,42,43,44,45,46,47,48,49,50,51,52,53,54,55,56,57,58,59,60,61]
def Yn(d:Int)(ps:List Int)(q:GP)(k:Nat)(b c:List (Int×Int)):Prop:=∀(j:Nat)(a:Int)(v:Bool×Int),j<k->ps[j]?=Z a->q.row[j]?=Z v->(a,d)∈c->qQ (cS b v) (pG b q.dst)
def Yn.succ{f:Int}{q:GP}{b c:List (Int×Int)}(w:Yn f ps q j b c){a:Int}(u:ps[j]?=Z a)(o:q.row[j]?=Z v)(h:(a,f)∈c->qQ (cS b v) (pG b q.dst)):Yn f ps q (j+1) b c:=λi E H I h1 f l=>by by_cases e:i=j;subst e;rw[u] at h1;cases h1;rw[o] at f;cases f;exact h l;exact w i E H ab h1 f l
def SrI(M:List (Int×Int)->List (Int×Int)->Prop)(c:Int)(ps:List Int)(q:GP)(t z:az)(S d m n nb:Nat)(name:ByteArray)(p r:Int)(B G:SV)(i g:List (Int×Int))(cx:Bool)(h:az)(k:Nat)(e:Env)(f:Nat)(a:Env)(b:az):Prop:=
 ∃j:Nat,f=k-j/\j<=k/\aG SrL e a/\bC a 37 j/\zN M (Yn c ps q j) t z S d m n nb name p r B G i g cx h b
def ai_{h:az}{f s:List (Int×Int)}(dv:cu t)(w:De t z h S d m n nb name p r B G f s cx){b:Nat}{W A:SV}(sW:∀h1,ay (DM d m) z h1->ad nR 1 h1 W.v ps)(MO:∀x∈ps,0<=x/\x<nb)(tj:cz ps<1000000){q:GP}(sA:ad vR 2 t A.v q.row)(hq:0<=q.dst/\q.dst<n)(hv:∀v∈q.row,rS n v)(hl:cz q.row=cz ps)(hMq:∀N V,M N V->Yn b ps q (cz ps) N V){X' sX:Nat}(hX:eR h X' [fc ft q.dst,A.v] sX)(nX:¬PQ S d m X')(f0:bU e 0 S)(f1:bC e 1 b)(f6:bU e 6 X')(f35:bY e 35=W.v)(f36:bC e 36 (cz ps))(f37:bC e 37 0)(C:∀e' i,aG SrL e e'->zN M (Yn b ps q (cz ps)) t z S d m n nb name p r B G f s cx h i->U (.exit 2) e' i):aK FF (.loop kM) e h U:=by
 have Bb:=ad.len (sW h w.gy);have jq:=ad.len sA;refine aK.loop (SrI M b ps q t z S d m n nb name p r B G f s cx h (cz ps) e) ?_ (n:=cz ps) ⟨0,Q,ab,aG.refl _ _,f37,.refl w λj a v h=>ab⟩;rintro mm e' i⟨j,rfl,hj,k,T,Sj⟩;have Sj':=Sj;have⟨g,X,P,kZ,H,a1⟩:=Sj';have q0:=k.at f0;have q1:=k.at f1;have q6:=k.at f6;have o:=k.at f35;have J':=k.at f36;have I:=H.g.ok;unfold kM;by_cases bg:j<cz ps
 .have wj:=ch ((j:Int)+1) ab ab;have⟨a,D⟩:=aQ ps j bg;have⟨v,l⟩:=aQ q.row j;have ha:=MO a (cO D);have ZX:=hv v (cO l);obtain⟨b1,Gh,c1,hWa,_,_,rfl,_,mi⟩:=ad.later I (sW i H.gy) D;have r1:=mi i (ay.refl I) 0 1 ag;obtain⟨b2,WH,c2,BN,_,_,rfl,_,Ab⟩:=ad.later dv sA l;have r2:=Ab i H.g 0 2 ag;simp[-ax] at r1 r2;simp at o;rw[hWa,Bb] at o;have⟨s1,hS⟩:=H.hS;have u:=hS;simp[dW] at u;have oS:=I.cg hS;have lh:=g.get w.g.ok hX nX;have O:=lh;simp at O;rw[BN,jq,hl] at O;have oX:=I.cg lh;have F:=Tp (a,(b:Int)) P;simp only[dG] at F;have hm:=H.hm;by_cases L:(a,(b:Int))∈P
  .simp[L] at F;have EO:=I.st _ _ _ _ _ O;simp[q0,q1,q6,o,J',T,bg,r1,u,hm,F,tS,-ax,aB u,aB O,aI,oS,oX,r2];refine bS.cut (λy=>ay aR i y) (bk I) ?_;intro y E;have w2:=H.grow E;refine bS.call (V:=λu' hh=>u'=dG (cS X v)/\ay aR y hh) (aj (HP E.ok w2.sv ZX)) ?_;rintro _ h3⟨rfl,g3⟩;have w3:=w2.grow g3;have dK:=g3.get E.ok (E.get I O (λh=>h));have zq:sX<=i.clock+1:=ab
   simp[dK,zq,EO,q0,q6];have⟨dn,MN⟩:∃u':Nat,q.dst=u':=⟨q.dst.toNat,ab⟩;refine bS.call (V:=λ_ hh=>zN M (λf _=>qQ (cS X v) (pG f dn)) t z S d m n nb name p r B G X P kZ h3 hh) (by simpa [MN] using Oe w3 (k:=dn) ab (IN w3.fk v) (λN V h1 y h3=>by have:=hMq N V h1 j a v bg D l (h3 _ L);rw[MN] at this;exact(y.of v).trans this)) ?_;rintro u4 h4 S4;simp[T,wj];refine⟨cz ps-(j+1),ab,j+1,Q,ab,?_,J,zN.trans (g.trans (E.trans g3).cm) a1 (S4.cU (D:=λf _=>qQ (cS f v) (pG f dn)) (λ_ _ h _=>h) λh=>h) λc d=>c.succ D l λ_=>by rw[MN];exact d⟩
   exact aq
  .simp[L] at F;simp[q0,q1,q6,o,J',T,bg,r1,u,hm,F,tS,-ax,aB u,aB O,aI,oS,oX,wj];refine⟨cz ps-(j+1),ab,j+1,Q,ab,?_,J,zN.trans g a1 (zN.refl (C:=λ_ s=>(a,(b:Int))∉s) H L) λc d=>c.succ D l λh=>absurd h d⟩
   exact aq
 .have:j=cz ps:=ab
  subst this;simp[J',T];exact C _ _ (k.set) ⟨g,X,P,kZ,H,a1⟩
end
section
variable{z D:az}{S d m n nb:Nat}{name:ByteArray}{p r:Int}{B F:SV}{M:List (Int×Int)->List (Int×Int)->Prop}
def SpL:List Nat:=[6]++[7,8,25,26,27,28,29,30,31,32,33,34,35,36,37,38,39,40,41,42,43,44,45,46,47,48,49,50,51,52,53,54,55,56,57,58,59,60,61,62]
def SpI(M:List (Int×Int)->List (Int×Int)->Prop)(C:Nat->List (Int×Int)->List (Int×Int)->Prop)(z D:az)(S d m n nb:Nat)(name:ByteArray)(p r:Int)(B F:SV)(g c:List (Int×Int))(cx:Bool)(h:az)(L:List Nat)(t k:Nat)(e:Env)(f:Nat)(a:Env)(b:az):Prop:=
 ∃j:Nat,f=k-j/\j<=k/\aG L e a/\bC a t j/\zN M (C j) z D S d m n nb name p r B F g c cx h b
def anE(c:Int)(ps:List Int)(f:List GP)(k:Nat)(b a:List (Int×Int)):Prop:=∀(i:Nat)(q:GP),i<k->f[i]?=Z q->Yn c ps q (cz ps) b a
def Ym(xs:List GI)(k:Nat)(a _gs:List (Int×Int)):Prop:=∀(i:Nat)(y:GI),i<k->xs[i]?=Z y->0<=y.dst->qQ (qC a y) (pG a y.dst)
def afh{h:az}{l k:List (Int×Int)}(O:cu z)(w:De z D h S d m n nb name p r B F l k cx)(H:Ra D d m F ws ah){b:Nat}(G:ah[b]?=Z ps)(tj:cz ps<1000000)(MO:∀x∈ps,0<=x/\x<nb){P:SV}{f:List GP}(L:ad (pR z) 2 z P.v f)(A:cz f<1000000)(A:∀q∈f,(0<=q.dst/\q.dst<n)/\cz q.row=cz ps/\∀v∈q.row,rS n v)(hM:∀s t,M s t->anE b ps f (cz f) s t)(X:bU e 0 S)(u:bC e 1 b)(V:bY e 23=P.v)(E:bC e 24 (cz f))(N:bC e 25 0)(C':∀y a,aG SpL e y->zN M (anE b ps f (cz f)) z D S d m n nb name p r B F l k cx h a->U (.exit 0) y a):aK FF (.loop kN) e h U:=by
 have fW:=ad.len L;have agR:=ad.len (H.sl h w.gy);have C:b<cz ws:=by rw[H.len];exact(cY.mp G).1
 have⟨W,hW⟩:=aQ ws b C;refine aK.loop (SpI M (anE b ps f) z D S d m n nb name p r B F l k cx h SpL 25 (cz f) e) ?_ (n:=cz f) ⟨0,Q,ab,aG.refl _ _,N,.refl w λi q h=>ab⟩;rintro N y a⟨j,rfl,y,k,y,g,IT,OF,kZ,l,N⟩;have T:=k.at X;have q1:=k.at u;have o:=k.at V;have PF:=k.at E;have E:=l.g.ok;unfold kN;by_cases u:j<cz f
 .have wj:=ch ((j:Int)+1) ab ab;have⟨q,I⟩:=aQ f j u;have⟨hqd,hql,hqv⟩:=A q (cO I);obtain⟨A,A,A,jk,_,_,⟨A,rfl,sA⟩,_,mi⟩:=ad.later O L I;have X:=mi a l.g 0 2 ag;simp[-ax] at X o;rw[jk,fW] at o;obtain⟨L,L,L,ZH,_,_,rfl,Q1,Ab⟩:=ad.later E (H.sl a l.gy) hW;have L:∀h1,ay (DM d m) D h1->ad nR 1 h1 W.v ps:=λh1 g1=>H.row h1 g1 b W ps hW G;have⟨H,hS⟩:=l.hS;have H:=hS;simp[dW] at H;rw[ZH,agR] at H;have G:=E.cg hS;have lS:=G.lt;have r2:=Ab a (ay.refl E) 0 1 ag;simp[-ax] at r2;have Bb:=ad.len (L a l.gy);simp[T,q1,o,PF,y,u,X,r2,C,-ax,aB H,cn,bj,aH,G,Q1];refine aK.cut (λH=>ay aR a H/\di H a.aw [fc ft q.dst,dB A.a A.l A.c]) ?_ ?_
  exact⟨(ay.refl E).var _ _,a.clock,by simp[aX]⟩;rintro H⟨H,G,G⟩;have X:=l.grow H;have C:=H.ok.wf _ _ G;have C:¬PQ S d m a.aw:=by obtain⟨a,a⟩:=l.hd;have:=E.wf _ _ a;have:=E.wf _ _ l.hm;rintro(e|e|e)<;>omega
  refine ai_ O X (b:=b) (W:=W) (A:=A) (ps:=ps) L MO tj (q:=q) sA hqd hqv hql (λs t h=>hM s t h j q u I) G C (au T) (au q1) J J (au Bb) J ?_;intro T T h T;have O:=h.at (t:=25) (ak y);simp[O,wj];refine⟨cz f-(j+1),ab,j+1,Q,u,?_,J,zN.trans (g.trans H.cm) N T λc d i H T h1=>?_⟩
  .refine aG.set (aG.set (aG.trans ?_ (h.cU)))
   exact aq
  by_cases e:i=j;subst e;rw[I] at h1;cases h1;exact d;exact c i H ab h1
 .have:j=cz f:=ab
  subst this;simp[PF,y];exact C' _ _ (k.set) ⟨g,IT,OF,kZ,l,N⟩
def Ym.succ{a f:List (Int×Int)}(w:Ym xs j a f){y:GI}(l:xs[j]?=Z y)(h:0<=y.dst->qQ (qC a y) (pG a y.dst)):Ym xs (j+1) a f:=λi z o h1 f=>by by_cases e:i=j;subst e;rw[l] at h1;cases h1;exact h f;exact w i z ab h1 f
def SlL:List Nat:=[10,66,67,68,69,70,71,72,73,74,75,76,77,78,79,80]
def afg{h:az}{b G:List (Int×Int)}(T:cu z)(w:De z D h S d m n nb name p r B F b G cx)(y:ad (iR z) 8 z L.v xs)(k:cz xs<1000000)(k:∀x∈xs,x.dst<n/\rS n x.a/\rS n x.b)(hM:∀C u,M C u->Ym xs (cz xs) C u)(t:bU e 0 S)(l:bY e 64=L.v)(O:bC e 65 (cz xs))(f:bC e 66 0)(C':∀N a,aG SlL e N->zN M (Ym xs (cz xs)) z D S d m n nb name p r B F b G cx h a->U (.exit 4) N a):aK FF (.loop kL) e h U:=by
 have H:=ad.len y;refine aK.loop (SpI M (Ym xs) z D S d m n nb name p r B F b G cx h SlL 66 (cz xs) e) ?_ (n:=cz xs) ⟨0,Q,ab,aG.refl _ _,f,.refl w λi q h=>ab⟩;rintro f N a⟨j,rfl,N,G,N,g,f,OF,kZ,I,X⟩;have P:=G.at t;have t:=G.at l;have o:=G.at O;have ok:=I.g.ok;unfold kL;by_cases l:j<cz xs
 .have wj:=ch ((j:Int)+1) ab ab;have⟨x,O⟩:=aQ xs j l;have⟨A,hxa,Te⟩:=k x (cO O);obtain⟨k,k,k,k,_,_,⟨A,rfl,W⟩,_,W⟩:=ad.later T y O;have y:=W a I.g 0 8 ag;simp[-ax,aM] at y;simp at t;rw[k,H] at t;by_cases T:0<=x.dst
  .have⟨k,W⟩:∃H:Nat,x.dst=H:=⟨x.dst.toNat,ab⟩;rw[W] at y;have H:(0:Int)<=(k:Int):=ab
   simp[P,t,o,N,l,y,H,-ax,aH,aI];refine bS.cut (λH=>ay aR a H/\∃s,s<=a.clock+1/\H.tr.get a.aw=Z (.bZ [fc ft x.op,fc ft k,dC x.a.1,fc ft x.a.2,dC x.b.1,fc ft x.b.2,fc ft x.fn,dB A.a A.l A.c] cd 0 s)) ?_ ?_;exact⟨((ay.refl ok).var _ _).tick,a.clock,dd _,by simp[aX]⟩;rintro H⟨E,a,hsX,dy⟩;have w2:=I.grow E;refine bS.call (V:=λv V=>v=dG (qC f x)/\ay aR H V) (by simpa [jj,aM,W] using aag (x:=x) (A:=A) E.ok w2.sv hxa Te) ?_;rintro _ h3⟨rfl,a⟩;have w3:=w2.grow a;have dK:=a.get E.ok dy;simp[dK,hsX,P];refine bS.call (V:=λ_ V=>zN M (λb _=>qQ (qC f x) (pG b k)) z D S d m n nb name p r B F f OF kZ h3 V) (aj (Oe w3 (k:=k) ab (ab8 f x) (λC u h1 H _=>by have:=hM C u h1 j x l O T;rw[W] at this;exact(H.mak x).trans this))) ?_;intro H H H;simp[N,wj];refine⟨cz xs-(j+1),ab,j+1,Q,ab,?_,J,zN.trans (g.trans (E.trans a).cm) X (H.cU (D:=λb _=>qQ (qC b x) (pG b k)) (λ_ _ h _=>h) λh=>h) λc d=>c.succ O λ_=>by rw[W];exact d⟩
   exact aq
  .simp[P,t,o,N,l,y,T,-ax,aH,wj];refine⟨cz xs-(j+1),ab,j+1,Q,ab,?_,J,?_⟩
   .exact aq
   have E:=(ay.refl ok).var [fc ft 0,fc ft 0,dC cd,fc ft 0,dC cd,fc ft 0,fc ft 0,dB K 0 0] [fc ft x.op,fc ft x.dst,dC x.a.1,fc ft x.a.2,dC x.b.1,fc ft x.b.2,fc ft x.fn,dB A.a A.l A.c] (S:=aR);exact zN.trans (g.trans E.cm) X (zN.refl (C:=λ_ _=>True) (I.grow E) trivial) λc _=>c.succ O λh=>absurd h T
 .have:j=cz xs:=ab
  subst this;simp[o,N];exact C' _ _ (G.set) ⟨g,f,OF,kZ,I,X⟩
end
set_option maxRecDepth 100000
def SeO:List Nat:=(aU 22).map (· +95)
def aqK{h:az}{X N a l j:Nat}{kind k b:Int}{P L T:SV}(W:eR h X [P.v,L.v,fc ft kind,dC on.1,fc ft on.2,T.v] a)(a:eR h N [fc ft k,fc ft b] l)(I:bU e 4 X)(l:bU e 11 N)(f:bC e 12 j)(H:∀O,aG SeO e O->bY O 116=dC (vF kind (k,b) j)->U .normal O h):aK FF aiY e h U:=by
 have u:=W;simp at u;unfold aiY;by_cases w:kind=2
 .subst w;simp[I,l,f,-ax,aB u,aB a];refine H _ ?_ (by simp[vF])
  repeat (refine aG.set ?_)
  exact aG.refl _ _
 have o:(kind==2)=cd:=fP w;by_cases O:k=2
 .subst O;simp[I,l,f,-ax,aB u,aB a,w,o];refine H _ ?_ (by simp[vF])
  repeat (refine aG.set ?_)
  exact aG.refl _ _
 have V:(k==2)=cd:=fP O;by_cases h:k=1
 .subst h;have E:∃t:Bool,t=(b !=0):=⟨_,Q⟩;have b:∃t:Bool,t=((j:Int)==0):=⟨_,Q⟩;obtain⟨t,t⟩:=E;obtain⟨E,E⟩:=b;simp[I,l,f,-ax,aB u,aB a,w,o,fV,d_];refine H _ ?_ (by simp[vF,o])
  repeat (refine aG.set ?_)
  exact aG.refl _ _
 .have E:(k==1)=cd:=fP h;simp[I,l,f,-ax,aB u,aB a,w,o,O,V,h,E];refine H _ ?_ (by simp[vF,o,V,E])
  repeat (refine aG.set ?_)
  exact aG.refl _ _
section
variable{z D:az}{S d m n nb:Nat}{name:ByteArray}{p r:Int}{B A:SV}{M:List (Int×Int)->List (Int×Int)->Prop}
def SeL:List Nat:=[12,13]++(aU 32).map (· +90)
def Pp(b kind:Int)(on:Int×Int)(I:List Int)(k:Nat)(_fx a:List (Int×Int)):Prop:=∀(i:Nat)(t:Int),i<k->I[i]?=Z t->vF kind on i=ck->(b,t)∈a
def Pp.succ{b kind:Int}{on:Int×Int}{f a:List (Int×Int)}(w:Pp b kind on I j f a){t:Int}(l:I[j]?=Z t)(h:vF kind on j=ck->(b,t)∈a):Pp b kind on I (j+1) f a:=λi u o h1 f=>by by_cases e:i=j;subst e;rw[l] at h1;cases h1;exact h f;exact w i u ab h1 f
def aff{h:az}{a l:List (Int×Int)}(x:cu z)(w:De z D h S d m n nb name p r B A a l cx){T:SV}(u:ad nR 1 z T.v I)(b:cz I<1000000)(fu:∀t∈I,0<=t/\t<nb){b:Nat}(X:b<nb){X N v W:Nat}{P' L' y:SV}{kind k s:Int}(F:eR h X [P'.v,L'.v,fc ft kind,dC on.1,fc ft on.2,y.v] v)(nX:¬PQ S d m X)(hN:eR h N [fc ft k,fc ft s] W)(W:¬PQ S d m N)(hM:∀v y,M v y->qf a v->Pp b kind (k,s) I (cz I) v y)(P:bU e 0 S)(O:bC e 1 b)(f4:bU e 4 X)(f11:bU e 11 N)(X:bY e 88=T.v)(H:bC e 89 (cz I))(N:bC e 90 0)(C':∀E f,aG SeL e E->zN M (Pp b kind (k,s) I (cz I)) z D S d m n nb name p r B A a l cx h f->U (.exit 6) E f):aK FF (.loop kK) e h U:=by
 have qg:=ad.len u;refine aK.loop (SpI M (Pp b kind (k,s) I) z D S d m n nb name p r B A a l cx h SeL 90 (cz I) e) ?_ (n:=cz I) ⟨0,Q,ab,aG.refl _ _,N,.refl w λi q h=>ab⟩;rintro N E f⟨j,rfl,N,a,N,g,V,L,G,E,C⟩;have T:=a.at P;have q1:=a.at O;have q4:=a.at f4;have P:=a.at f11;have o:=a.at X;have O:=a.at H;have H:=E.g.ok;have lh:=g.get w.g.ok F nX;have hN1:=g.get w.g.ok hN W;unfold kK;by_cases W:j<cz I
 .have F:=ch ((j:Int)+1) ab ab;have⟨to,H⟩:=aQ I j W;have MV:=fu to (cO H);obtain⟨X,X,X,BO,_,_,rfl,_,mi⟩:=ad.later x u H;have X:=mi f E.g 0 1 ag;simp[-ax] at X;simp at o;rw[BO,qg] at o;simp[o,O,N,W,X,-ax];refine aqK lh hN1 (j:=j) (au q4) (au P) J ?_;intro P u x;have J':bY P 13=fc ft to:=u.at J;have P:=u.at (t:=0) (ak T);have X:=u.at (t:=1) (ak q1);have T:=u.at (t:=90) (ak N);cases c:vF kind (k,s) j with
  |true=>
   rw[c] at x;simp[P,X,J',x];refine bh.call (V:=λ_ s=>zN M (λ_ l=>((b:Int),to)∈l) z D S d m n nb name p r B A V L G f s) (aj (adp E (a:=b) (to:=to) ab MV (λv y h1 b _=>hM v y h1 (C.gx.trans b) j to W H c))) ?_;intro W W W;simp[T,F];refine⟨cz I-(j+1),ab,j+1,Q,ab,?_,J,zN.trans g C W λw d=>w.succ H λ_=>d⟩;refine aG.set (aG.set (aG.set (aG.set (aG.set (aG.set (aG.trans ?_ (u.cU)))))))
   exact aq
  |false=>
   rw[c] at x;simp[P,X,J',x,T,F];refine⟨cz I-(j+1),ab,j+1,Q,ab,?_,J,zN.trans g C (zN.refl (C:=λ_ _=>True) E trivial) λw _=>w.succ H λh=>by rw[c] at h;cases h⟩;refine aG.set (aG.set (aG.trans ?_ (u.cU)))
   exact aq
 .have:j=cz I:=ab
  subst this;simp[O,N];exact C' _ _ (a.set) ⟨g,V,L,G,E,C⟩
end
section
variable{z C:az}{S d m n nb:Nat}{name:ByteArray}{p r:Int}{B A:SV}{M:List (Int×Int)->List (Int×Int)->Prop}
structure IA(n:Nat)(ah:List (List Int))(bs:List GB):Prop where
 len:cz bs<=1000
 ahl:cz ah=cz bs
 row:∀(i:Nat)(ps:List Int),ah[i]?=Z ps->cz ps<1000000/\∀x∈ps,0<=x/\x<cz bs
 ph:∀(i:Nat)(b:GB)(ps:List Int),bs[i]?=Z b->ah[i]?=Z ps->cz b.bz<1000000/\∀q∈b.bz,(0<=q.dst/\q.dst<n)/\cz q.row=cz ps/\∀v∈q.row,rS n v
 li:∀b∈bs,cz b.list<1000000/\∀x∈b.list,x.dst<n/\rS n x.a/\rS n x.b
 on:∀b∈bs,rS n b.on
 to:∀b∈bs,cz b.to<1000000/\∀t∈b.to,0<=t/\t<cz bs
def afe{h:az}{l s:List (Int×Int)}(D:cu z)(w:De z C h S d m n nb name p r B A l s cx)(G:qP z B bs)(I7:cz bs=nb)(IY:Ra C d m A ws ah)(I:IA n ah bs){g:Nat}(k:bs[g]?=Z x)(F:ah[g]?=Z ps):aY FF 177 [eU (Z ⟨S,0,K⟩),fc ft g] h (λ_ W=>zN (λb f=>GK g ps x b f b f) (λb f=>GK g ps x b f b f) z C S d m n nb name p r B A l s cx h W):=by
 have hb:g<nb:=av ((cY.mp k).1)
 have W:=w.g.ok;have u:=ad.len G;have H:=cO k;have⟨rl,rp⟩:=I.row g ps F;have⟨M,pq⟩:=I.ph g x ps k F;have⟨ll,T⟩:=I.li x H;have⟨tl,tq⟩:=I.to x H;obtain⟨N,N,N,N,_,_,⟨P,L,X,rfl,t,E,sT⟩,V,V⟩:=ad.later D G k;have G:=V h w.g 0 6 ag;simp[-ax] at G;have fW:=ad.len t;have O:=ad.len E;have qg:=ad.len sT;obtain⟨V,V⟩:=w.hS;have k:=V;simp[dW] at k;rw[N,u] at k;have u:g<cz bs:=ab
 refine aY.of DW ?_;unfold uP;simp[k,u,G,-ax,aB k,aH];refine aK.cut (λk=>ay aR h k/\di k h.aw [P.v,L.v,fc ft x.kind,dC x.on.1,fc ft x.on.2,X.v]) ?_ ?_;exact⟨(ay.refl W).var _ _,h.clock,by simp[aX]⟩;rintro k⟨G,X,u⟩;have w2:=w.grow G;have X:=G.ok.wf _ _ u;have N:¬PQ S d m h.aw:=by have⟨s2,X⟩:=w.hd;have:=W.wf _ _ X;have:=W.wf _ _ w.hm;have:=W.wf _ _ V;rintro(e|e|e)<;>omega
 refine afh (M:=λb f=>GK g ps x b f b f) D w2 IY F rl (by rw[<-I7];exact rp) t M pq (λb f w i q _ hq j a v _ h1 k F=>w.NP q (cO hq) j a v h1 k F) J J J (au fW) J ?_;rintro t F W⟨g3,M,M,M,w3,a3⟩;have V:bU t 0 S:=W.at J;have k1:bY t 1=fc ft g:=W.at J;have M:bU t 4 h.aw:=W.at J;have dK:=g3.get G.ok u N;have W:=dK;simp at W;simp[M,W,-ax,aB W];refine afg (M:=λb f=>GK g ps x b f b f) D w3 E ll T (λb f w i y _ t z=>w.ins y (cO t) z) (au V) J (au O) J ?_;rintro E h4 u⟨g4,O',T,T,W,a4⟩;have T:bU E 0 S:=u.at (au V);have V:bY E 1=fc ft g:=u.at (au k1);have O:bU E 4 h.aw:=u.at (au M);have iI:=g4.get g3.ok dK N;have u:=iI;simp at u;simp[T,V,O,u,-ax,aB u];refine bh.call (V:=λM u=>M=dG (cS O' x.on)/\ay aR h4 u) (aj (HP W.g.ok W.sv (I.on x H))) ?_;rintro _ u⟨rfl,H⟩;have E:=W.grow H;have M:=H.get W.g.ok iI;have o:=M;simp at o;have⟨y,t⟩:∃y,y=cS O' x.on:=⟨_,Q⟩;rw[<-t];have⟨y1,y2⟩:=y;have W:=H.ok.cg M;have nX5:¬h.aw=u.aw:=av W.lt
 simp[dG,T,V,O,o,nX5,-ax,aB o,cn,bj,W];refine aK.cut (λW=>ay aR u W/\di W u.aw [fc ft y1,fc ft y2]) ?_ ?_;exact⟨(ay.refl H.ok).var _ _,u.clock,by simp[aX]⟩;rintro W⟨W,sN,hN6⟩;have w6:=E.grow W;have nN:¬PQ S d m u.aw:=by have⟨s2,X⟩:=E.hd;obtain⟨u,u⟩:=E.hS;have:=E.g.ok.wf _ _ X;have:=E.g.ok.wf _ _ E.hm;have:=E.g.ok.wf _ _ u;rintro(e|e|e)<;>omega
 have u:=W.get H.ok M;refine aff (M:=λb f=>GK g ps x b f b f) D w6 sT tl (by rw[<-I7];exact tq) hb u N hN6 nN (λb f w N i f _ b u=>w.to i f b (IL (by rw[t];exact N.of _) u)) (au T) (au V) (au O) J J (au qg) J ?_;intro O O O O;simp;refine zN.trans (G.cm.trans g3) a3 (zN.trans (F:=λl s=>Ym x.list (cz x.list) l s/\Pp g x.kind (cS l x.on) x.to (cz x.to) l s) (g4.trans (H.trans W).cm) a4 (O.cU (D:=λl s=>Pp g x.kind (cS l x.on) x.to (cz x.to) l s) (λ_ _ h _=>h) λc=>by rw[<-t];exact c) λc d=>⟨c,d⟩) λc d=>⟨λq hq j a v h1 k F=>?_,λy t z=>?_,λj f h1 k=>?_⟩;have⟨i,U⟩:=iG hq;exact c i q (cY.mp U).1 U j a v (cY.mp h1).1 h1 k F;have⟨i,U⟩:=iG t;exact d.1 i y (cY.mp U).1 U z;exact d.2 j f (cY.mp h1).1 h1 k
end
section
variable{z A:az}{S d m n nb:Nat}{name:ByteArray}{p r:Int}{B t:SV}
def De.aD7{h:az}{a f:List (Int×Int)}(w:De z A h S d m n nb name p r B t a f cx){y:Int×Int}(u:k<n)(I:iL y):ay (PQ S d m) h (put h d (k*2) (jC.flat a) [fc ft y.1,fc ft y.2] 0)/\De z A (put h d (k*2) (jC.flat a) [fc ft y.1,fc ft y.2] 0) S d m n nb name p r B t (a.set k y) f cx:=by
 have H:=w.g.ok;have⟨c,b⟩:=w.hS;have⟨V,o⟩:=w.hd;have E:=Ie a k y (by rw[w.fl];exact u);have⟨O,W,U⟩:=w.ne;have f:=(ay.refl H).put (S:=PQ S d m) (off:=k*2) (vs:=[fc ft y.1,fc ft y.2]) ⟨_,o⟩ (kd (kd (jZ Q)));refine⟨f,⟨w.g.trans' f ai (λx l e=>?_),w.gy.trans' f ai (λx l e=>?_),w.nSy,w.nS,w.nd,w.nm,⟨c,by rw[dO,bM O,b]⟩,⟨h.clock,by rw[dO,bK Q,E]⟩,by rw[dO,bM (λe=>U e.symm),w.hm],by simp[w.fl],λx l=>?_,w.gi,w.ne⟩⟩
 .have:=w.nS;have:=w.nd;have:=w.nm
  rcases e with e|e|e<;>omega
 have:=w.nSy;rcases e with e|e|e;omega;exact jZ e;exact kd e;rcases oj l with h|h;exact w.fk x h;rw[h];exact I
def De.awk{h:az}{a f:List (Int×Int)}(w:De z A h S d m n nb name p r B t a f cx)(v:Bool):ay (PQ S d m) h (put h S 7 (dW name p r B t d n m cx) [dC v] 0)/\De z A (put h S 7 (dW name p r B t d n m cx) [dC v] 0) S d m n nb name p r B t a f v:=by
 have o:=w.g.ok;have⟨I,E⟩:=w.hS;have⟨u,l⟩:=w.hd;have⟨H,a,f⟩:=w.ne;have f:=(ay.refl o).put (S:=PQ S d m) (off:=7) (vs:=[dC v]) ⟨I,E⟩ (kd (jZ Q));refine⟨f,⟨w.g.trans' f ai (λx O e=>?_),w.gy.trans' f ai (λx O e=>?_),w.nSy,w.nS,w.nd,w.nm,⟨h.clock,by simp[dW]⟩,⟨u,by rw[dO,bM (λe=>H e.symm),l]⟩,by rw[dO,bM (λe=>a e.symm),w.hm],w.fl,w.fk,w.gi,w.ne⟩⟩
 .have:=w.nS;have:=w.nd;have:=w.nm
  rcases e with e|e|e<;>omega
 have:=w.nSy;rcases e with e|e|e;omega;exact jZ e;exact kd e
def asA:List Nat:=[4,17,18,19,20,21,22,23,24,25,26,27]
def azL(z A:az)(S d m n nb:Nat)(name:ByteArray)(p r:Int)(B t:SV)(i g:List (Int×Int))(cx:Bool)(h:az)(k:Nat)(e:Env)(f:Nat)(c:Env)(b:az):Prop:=
 ∃(j:Nat) (a:List (Int×Int)),f=k-j/\j<=k/\aG asA e c/\bC c 17 j/\ay (PQ S d m) h b/\De z A b S d m n nb name p r B t a g cx/\(∀r:Nat,r<j->pG a r=(2,0))/\∀b,(∀r:Nat,r<k->qQ (2,0) (pG b r))->qf i b->qf a b
def Uo{h:az}{q T:List (Int×Int)}(w:De z A h S d m n nb name p r B t q T cx)(E:P<=n)(b:n<=1000000)(s:bU e 3 S)(x:bC e 16 P)(O:bC e 17 0)(c:∀H i W,aG asA e H->ay (PQ S d m) h i->De z A i S d m n nb name p r B t W T cx->(∀r:Nat,r<P->pG W r=(2,0))->(∀y,(∀r:Nat,r<P->qQ (2,0) (pG y r))->qf q y->qf W y)->U (.exit 0) H i):aK FF (.loop sD) e h U:=by
 refine aK.loop (azL z A S d m n nb name p r B t q T cx h P e) ?_ (n:=P) ⟨0,q,Q,ab,aG.refl _ _,O,.refl w.g.ok,w,λr h=>ab,λ_ _ h=>h⟩;rintro N H i⟨j,I,rfl,v,C,u,g,l,o,b⟩;have E:=C.at s;have V:=C.at x;unfold sD;by_cases T:j<P
 .have a:=ch ((j:Int)+1) ab ab;have⟨f,D⟩:=l.hS;have⟨N,q⟩:=l.hd;have s:=D;simp[dW] at s;have f:j<n:=ab
  have O:j*2+2<=cz I*2:=av l.fl
  simp[E,V,u,T,s,f,q,O,a];have W:=l.aD7 (k:=j) (y:=(2,0)) f (kd (kd Q));refine⟨P-(j+1),ab,j+1,I.set j (2,0),Q,T,?_,J,g.trans W.1,W.2,λr L=>?_,λy h1 D=>?_⟩
  .exact aq
  rw[Hw (by rw[l.fl];exact f)];split;rfl;exact o r ab;exact(b y h1 D).set (by rw[l.fl];exact f) (h1 j T)
 .have:j=P:=ab
  subst this;simp[V,u];exact c _ _ I (C.set) g l o b
def anT(bs:List GB):List (Int×Int):=(aU (cz bs)).flatMap λi:Nat=>((bs[i]?).getD noG).to.map λt=>((i:Int),t)
def Wx{a t:Int} :(a,t)∈anT bs↔a∈aN bs t:=by rw[cJ];simp only[anT,List.mem_flatMap,OB,kC,BM];constructor;rintro⟨i,f,u,l,rfl,rfl⟩;rw[jh f] at l;exact⟨i,Q,_,jh f,l⟩;rintro⟨i,rfl,x,o,w⟩;exact⟨i,(cY.mp o).1,t,by rw[o];exact w,Q,Q⟩
def Ms(bs:List GB)(P:Nat)(d c:List (Int×Int)):Prop:=∀a b,Uw bs P a b a b->qf d a/\∀e∈c,e∈b
def Ms.Pk{E l:List (Int×Int)}(w:Ms bs P E l)(O:P<=n)(E:EB bs)(I:IA n (Edge.df (cw bs)) bs){a t:Int}(h:(a,t)∈l):a∈aN bs t:=by
 have l:∀k:Int,0<=k->k<n->pG (ae n (2,0)) k=(2,0):=λk h1 H=>by unfold pG;rw[Qp,bK ab];rfl
 have f:∀ {x y:Int×Int},y=(2,0)->qQ x y:=λh=>kd (kd (by rw[h]));refine Wx.1 ((w (ae n (2,0)) (anT bs) ⟨λr b=>f (l r ab ab),λb x o _=>⟨λq u j a v h1 H U=>?_,λy c z=>?_,λj t h1 _=>?_⟩⟩).2 _ h);have:=(I.ph b x _ o (E.ahead (cY.mp o).1)).2 q u;exact f (l _ this.1.1 this.1.2);have:=(I.li x (cO o)).2 y c;exact f (l _ z this.1);exact Wx.2 (cJ.2 ⟨b,Q,x,o,cO h1⟩)
def Ms.adv{P N:Nat}{C:List (Int×Int)->List (Int×Int)->Prop}{f e d h:List (Int×Int)}(w:Ms bs P f e)(a:Pt (λb c=>Uw bs P b c b c) C N f e cx d h vq):Ms bs P d h:=λb c h=>a.ls b c h (w b c h).1 (w b c h).2
def SS(bs:List GB)(k:Nat)(c a:List (Int×Int)):Prop:=∀(b:Nat)(x:GB),b<k->bs[b]?=Z x->jB a b=ck->GK b (aN bs b) x c a c a
def SS.succ{b a:List (Int×Int)}(w:SS bs j b a)(l:bs[j]?=Z x)(h:jB a j=ck->GK j (aN bs j) x b a b a):SS bs (j+1) b a:=λi y o h1 f=>by by_cases e:i=j;subst e;rw[l] at h1;cases h1;exact h f;exact w i y ab h1 f
def asy:List Nat:=[5,41,42,43,44,45,46,47,48,49,50]
def azJ(bs:List GB)(P:Nat)(z A:az)(S d m n nb:Nat)(name:ByteArray)(p r:Int)(B t:SV)(i g:List (Int×Int))(cx:Bool)(h:az)(e:Env)(f:Nat)(a:Env)(c:az):Prop:=
 ∃j:Nat,f=nb-j/\j<=nb/\aG asy e a/\bC a 41 j/\zN (λa b=>Uw bs P a b a b) (SS bs j) z A S d m n nb name p r B t i g cx h c
def Un{h:az}{q T:List (Int×Int)}(X:cu z)(w:De z A h S d m n nb name p r B t q T cx)(hB:qP z B bs)(I7:cz bs=nb)(F:Ra A d m t ws (Edge.df (cw bs)))(I:IA n (Edge.df (cw bs)) bs)(u:EB bs)(hP:P<=n)(s:Ms bs P q T)(H:bU e 3 S)(b:bC e 40 nb)(D:bC e 41 0)(C':∀W i,aG asy e W->zN (λl y=>Uw bs P l y l y) (SS bs nb) z A S d m n nb name p r B t q T cx h i->U (.exit 4) W i):aK FF (.loop sx) e h U:=by
 have O:=I.len;refine aK.loop (azJ bs P z A S d m n nb name p r B t q T cx h e) ?_ (n:=nb) ⟨0,Q,ab,aG.refl _ _,D,.refl w λO x h=>ab⟩;rintro N W i⟨j,rfl,L,C,f,g,V,o,G,O,D⟩;have E:=C.at H;have L:=C.at b;unfold sx;by_cases W:j<nb
 .have b:=ch ((j:Int)+1) ab ab;have⟨x,H⟩:=aQ bs j;have q:=u.ahead (k:=j) ab;have N:=s.adv D;simp[E,L,f,W];refine bh.call (V:=λv M=>v=dC (jB o j)/\ay aR i M) (aj (acZ O F q (I.row j _ q).1 λa h=>N.Pk hP u I h)) ?_;rintro _ i⟨rfl,s⟩;have N:=O.grow s;cases c:jB o j
  .simp[f,b];refine⟨nb-(j+1),ab,j+1,Q,W,?_,J,zN.trans (g.trans s.cm) D (zN.refl (C:=λ_ T=>jB T j=cd) N c) λu d=>u.succ H λh=>by rw[d] at h;cases h⟩
   exact aq
  .simp[E];refine bh.call (V:=λ_ M=>zN (λl y=>GK j (aN bs j) x l y l y) (λl y=>GK j (aN bs j) x l y l y) z A S d m n nb name p r B t V o G i M) (aj (afe X N hB I7 F I H q)) ?_;intro E i M;simp[f,b];refine⟨nb-(j+1),ab,j+1,Q,W,?_,J,zN.trans (g.trans s.cm) D (M.cU (D:=λl y=>GK j (aN bs j) x l y l y) (λl y k h=>k.bZ j x H (FR h c)) λh=>h) λu d=>u.succ H λ_=>d⟩
   exact aq
 .have:j=nb:=ab
  subst this;simp[L,f];exact C' _ _ (C.set) ⟨g,V,o,G,O,D⟩
def asz:List Nat:=[5,31,32,33,34,35,36,37,38,39,40,41,42,43,44,45,46,47,48,49,50]
def azK(bs:List GB)(P:Nat)(z A:az)(S d m n nb:Nat)(name:ByteArray)(p r:Int)(B t:SV)(h:az)(e:Env)(f:Nat)(g:Env)(c:az):Prop:=
 ∃(a b:List (Int×Int)) (cx:Bool),f=2*Yg (nb*nb) a b+cx.toNat/\aG asz e g/\ay (PQ S d m) h c/\De z A c S d m n nb name p r B t a b cx/\Ms bs P a b/\(∀r:Nat,r<P->qQ (2,0) (pG a r))/\(cx=cd->SS bs nb a b)
def aa5{h:az}{q T:List (Int×Int)}(G:cu z)(w:De z A h S d m n nb name p r B t q T cx)(y:qP z B bs)(u:cz bs=nb)(IY:Ra A d m t ws (Edge.df (cw bs)))(I:IA n (Edge.df (cw bs)) bs)(M:EB bs)(hP:P<=n)(L:Ms bs P q T)(k:∀r:Nat,r<P->qQ (2,0) (pG q r))(l:cx=ck){X sX:Nat}(H:eR h X (aC name p r B) sX)(v:¬PQ S d m X)(j:bU e 1 X)(N:bU e 3 S)(D:∀b i W O vq,aG asz e b->ay (PQ S d m) h i->De z A i S d m n nb name p r B t W O vq->uq bs P n W O->U (.exit 2) b i):aK FF (.loop sy) e h U:=by
 have O:=ad.len y;refine aK.loop (azK bs P z A S d m n nb name p r B t h e) ?_ (n:=2*Yg (nb*nb) q T+cx.toNat) ⟨q,T,cx,Q,aG.refl _ _,.refl w.g.ok,w,L,k,λh=>by rw[l] at h;cases h⟩;rintro W b i⟨T,L,F,rfl,C,g,l,f,o,E⟩;have q:=C.at j;have s:=C.at N;have i:=l.g.ok;have⟨N,C⟩:=l.hS;have V:=C;simp[dW] at V;have N:=g.get w.g.ok H v;simp[aC] at N;have k:¬X=S:=λe=>v (jZ e);unfold sy;cases F
 .simp[s,V];refine D _ _ T L cd ?_ g l ⟨l.fl,l.fk,⟨o,λb x D F=>E Q b x (av ((cY.mp D).1)) D F⟩,λL j _ h=>f L j h⟩
  exact aq
 .have W:=l.awk cd;simp[q,s,V,N,k];simp only[dW] at W;have a:=W.1;have D:=W.2;simp at a D;refine Un G D y u IY I M hP f (au s) (by simp[O,u]) J ?_;rintro T b l⟨s,H,u,O,N,T⟩;simp;refine⟨2*Yg (nb*nb) H u+O.toNat,?_,H,u,O,Q,?_,(g.trans a).trans s,N,f.adv T,λr L=>(o r L).trans (T.gx r),λh=>?_⟩
  .have C:=T.pt;have N:=T.dn rfl;cases O
   simp;omega;have:=N rfl;simp;omega
  .refine aG.trans ?_ (l.cU)
   exact aq
  obtain⟨rfl,rfl,c⟩:=T.st h;exact c
def anS{V f c:Nat}{l:List (List Int)}(b:cu A)(w:lx encI V A f ws l)(W:d<V)(W:m<V):Ra A d m ⟨Z ⟨f,0,K⟩,cz l,c⟩ ws l:=by
 have W:∀h1,ay (DM d m) A h1->lx encI V h1 f ws l:=λh1 g=>w.grow b g (λb E e=>by rcases e with e|e<;>omega);refine⟨w.len,λh1 g=>?_,λh1 g i u xs o O=>?_⟩;have⟨s,E⟩:=(W h1 g).bZ;refine⟨_,c,by rw[w.len];rfl,kd ⟨f,0,_,_,_,_,Q,E,λi u o=>?_⟩⟩;have:=zV.tf ws i u o;simp only[abJ,Nat.mul_one] at this;rw[IV,Nat.mul_one,this];exact⟨Q,Q⟩
 have a:=(W h1 g).acc i u xs o O;rcases a with⟨rfl,e⟩|⟨b,U,e,H,O,_⟩;rw[e];exact⟨K,0,Q,jZ ⟨Q,jZ Q⟩⟩;rw[e];refine⟨_,_,Q,kd ⟨b,0,_,_,_,_,Q,H,λk x I=>?_⟩⟩;have:=encI.tf xs k x I;simp only[Dp,Nat.mul_one] at this;rw[IV,Nat.mul_one,this];exact⟨Q,Q⟩
def af9(h:az)(n:Nat)(name:ByteArray)(p r:Int)(B:SV)(bs:List GB)(P:Nat)(v:aa)(b:az):Prop:=
 ay aR h b/\∃(S d m:Nat) (t:SV) (a c:List (Int×Int)),v=eU (Z ⟨S,0,K⟩)/\h.aw<=S/\h.aw<=d/\Sv b S d m n name p r B t a/\uq bs P n a c
def aa4{h:az}(O:cu h){name:ByteArray}(m:qP h B bs)(E:EB bs)(I:IA n (Edge.df (cw bs)) bs)(i:P<=n)(t:n<=1000000):aY FF 115 [ix ⟨aC name P n B⟩] h (af9 h n name P n B bs P):=by
 have f:roomy n=ck:=by simp[roomy];omega
 have g:roomy (n*16)=ck:=by simp[roomy];omega
 refine aY.of L7 ?_;unfold Ci;simp[aC,f,g];refine bS.cut (λh1=>ay aR h h1/\h1.aw=h.aw+3/\h1.tr.get h.aw=Z (.bZ (aC name P n B) cd 0 0)/\h1.tr.get (h.aw+1)=Z (.bZ (jC.flat (ae n (0,0))) cd 0 0)/\h1.tr.get (h.aw+1+1)=Z (.map [])) ?_ ?_;rw[DH jC (z:=[fc ft 0,fc ft 0]) (0,0) rfl];refine⟨(((ay.refl O).new _ _).tick.new _ _).trans (adr ((((ay.refl (S:=aR) O).new _ _).tick.new _ _).ok) _ (λ_ _ _ _ e=>by cases e)),Q,?_,?_,?_⟩;simp[az.new,Tr.bN,aC];omega;simp[az.new,Tr.bN];simp[az.new,Tr.bN];rintro h1⟨o,g,g,H,q⟩;refine bS.call (V:=λv f=>ay aR h1 f/\∃d ws,v=dB (Z ⟨d,0,K⟩) (cz bs) (cz bs)/\lx encI h1.aw f d ws (Edge.df (cw bs))) (by simpa [aC] using mh o.ok (name:=name) (p:=P) (r:=n) (m.mono O o) E.ends) ?_;rintro _ f⟨l,b,ws,rfl,W⟩;have a:=l.ok;have y:cz (Edge.df (cw bs))=cz bs:=I.ahl;have j:Ra f (h.aw+1) (h.aw+1+1) ⟨Z ⟨b,0,K⟩,cz (Edge.df (cw bs)),cz bs⟩ ws (Edge.df (cw bs)):=anS a W ab ab;have W:=l.get o.ok g;have g:=l.get o.ok H;have H:=l.get o.ok q;have q:=l.aw;simp[aC] at W;have q:=o.trans l;have l:¬h.aw=f.aw:=ab
 simp[W,g,H,l];refine aK.cut (λl=>ay aR f l/\di l f.aw (dW name P n B ⟨Z ⟨b,0,K⟩,cz bs,cz bs⟩ (h.aw+1) n (h.aw+1+1) cd)) ?_ ?_;exact⟨(ay.refl a).new _ _,0,by simp[dW]⟩;rintro l⟨u,z,s⟩;have p:De h f l f.aw (h.aw+1) (h.aw+1+1) n (cz bs) name P n B ⟨Z ⟨b,0,K⟩,cz bs,cz bs⟩ (ae n (0,0)) [] cd:=
  ⟨q.trans u,u.cm,fq _,ab,ab,ab,⟨z,s⟩,⟨0,u.get a g⟩,u.get a H,J,λx H=>jZ (List.mem_replicate.1 H).2,⟨J,J⟩,ab,ab,ab⟩
 rw[y] at j;refine Uo p i t J J J ?_;intro H t q g s U y t;have b:¬PQ f.aw (h.aw+1) (h.aw+1+1) h.aw:=by rintro(e|e|e)<;>omega
 have l:bU H 3 f.aw:=g.at J;have p:bU H 1 h.aw:=g.at J;obtain⟨g,g⟩:=U.hS;have w:=g;simp[dW] at w;have g:=s.get u.ok (u.get a W) b;have W:=U.awk ck;simp only[dW] at W;have a:=W.1;have u:=W.2;simp at a u;simp[l,w];have W:Ms bs P q []:=λq s c=>⟨t q c.par λk=>jZ (by unfold pG;rw[Qp];split<;>rfl),J⟩;refine aa5 O u m rfl j I E i W (λr E=>by rw[y r E];exact .refl _) rfl (X:=h.aw) (sX:=0) (by simpa [aC] using a.get U.g.ok g b) b (au p) (au l) ?_;intro p g g W b E b b i;have a:bU p 3 f.aw:=E.at (au l);simp[a];exact⟨b.g,f.aw,h.aw+1,h.aw+1+1,_,g,W,Q,ab,ab,b.sv,i⟩
end
structure GN(h:az)(t N G:SV)(fx gs:List (Int×Int)):Prop where
 tk:eM encI h t (fx.map (·.1))
 N:eM encI h N (fx.map (·.2))
 G:eM jC h G gs
section
variable{h z:az}{t N G:SV}{r p:List (Int×Int)}{n:Nat}
def GN.cm(k:GN h t N G r p)(f:cu h)(g:ay aR h z):GN z t N G r p:=
 ⟨k.tk.go f g (λ_ h=>h.elim),k.N.go f g (λ_ h=>h.elim),k.G.go f g (λ_ h=>h.elim)⟩
def GN.go{S:Nat->Prop}(k:GN h t N G r p)(l:cu h)(g:ay S h z)(o:∀c,dt t=Z c\/dt N=Z c\/dt G=Z c->¬S c):GN z t N G r p:=
 ⟨k.tk.go l g (λc f e=>o c (jZ e) f),k.N.go l g (λc f e=>o c (kd (jZ e)) f),k.G.go l g (λc f e=>o c (kd (kd e)) f)⟩
def GN.at(k:GN h t N G r p)(w:cu h){i:Nat}{x:Int×Int}(c:r[i]?=Z x):∃f l:Nat,t.a=Z ⟨f,0,K⟩/\N.a=Z ⟨l,0,K⟩/\t.l=cz r/\N.l=cz r/\f<h.aw/\l<h.aw/\∀h1,ay aR h h1->cy h1 f i 1=Z [fc ft x.1]/\cy h1 l i 1=Z [fc ft x.2]:=by
 have E:(r.map (·.1))[i]?=Z x.1:=by rw[gM,c];rfl
 have O:(r.map (·.2))[i]?=Z x.2:=by rw[gM,c];rfl
 have⟨f,_,_,_,H,U,_⟩:=k.tk.el E;have⟨l,_,_,_,I,V,_⟩:=k.N.el O;refine⟨f,l,H,I,by have:=k.tk.len;simpa using this,by have:=k.N.len;simpa using this,w.wf _ _ U,w.wf _ _ V,λh1 g=>?_⟩;have a:=k.cm w g;have⟨e,_,_,_,d,_,_,_,u,_⟩:=a.tk.el E;have⟨W,_,_,_,b,_,_,_,o,_⟩:=a.N.el O;rw[H] at d;cases d;rw[I] at b;cases b;have u:=u 0 1 ag;have o:=o 0 1 ag;simp[-ax] at u o;exact⟨u,o⟩
def DO(o:cu h)(k:GN h t N G r p)(E:cz r=n)(a:rS n v):aY FF 182 [ix ⟨[t.v,N.v,G.v]⟩,ix ⟨[dC v.1,fc ft v.2]⟩] h (λu z=>u=.tuple #[fc ft (cS r v).1,fc ft (cS r v).2]/\ay aR h z):=by
 refine aY.of FH ?_;unfold wU;have⟨W,d⟩:=v;have I:¬h.aw=h.aw+1:=ab
 cases W;simp[cS,I];exact(((ay.refl o).new _ _).new _ _).tick;have⟨V,U⟩:=a rfl;dsimp only at V U;obtain⟨i,rfl⟩:∃W:Nat,d=W:=⟨d.toNat,ab⟩;have a:i<n:=ab
 have⟨x,H⟩:=aQ r i;obtain⟨f,l,d,u,b,c,W,W,W⟩:=k.at o H;have O:ay aR h (aJ (aJ h [t.v,N.v,G.v] 0) [dC ck,fc ft i] 0):=((ay.refl o).new _ _).new _ _;have O:cS r (ck,(i:Int))=x:=by simp[cS,H]
 rw[O];simp[d,u,b,c,E];have w:(aJ (aJ h [dB (Z ⟨f,0,K⟩) n t.c,dB (Z ⟨l,0,K⟩) n N.c,dB G.a G.l G.c] 0) [dC ck,fc ft i] 0).tr.get h.aw=Z (.bZ [dB (Z ⟨f,0,K⟩) n t.c,dB (Z ⟨l,0,K⟩) n N.c,dB G.a G.l G.c] cd 0 0):=by simp[I]
 have E:(aJ (aJ h [dB (Z ⟨f,0,K⟩) n t.c,dB (Z ⟨l,0,K⟩) n N.c,dB G.a G.l G.c] 0) [dC ck,fc ft i] 0).tr.get (h.aw+1)=Z (.bZ [dC ck,fc ft i] cd 0 0):=J
 have d:ay aR h (aJ (aJ h [dB (Z ⟨f,0,K⟩) n t.c,dB (Z ⟨l,0,K⟩) n N.c,dB G.a G.l G.c] 0) [dC ck,fc ft i] 0):=((ay.refl o).new _ _).new _ _;have⟨H,O⟩:=W _ d;generalize aJ (aJ h [dB (Z ⟨f,0,K⟩) n t.c,dB (Z ⟨l,0,K⟩) n N.c,dB G.a G.l G.c] 0) [dC ck,fc ft i] 0=h2 at*;simp[w,E,a,H,O,aI,-ax,aB w,aB E];exact d.tick
def GoL:List Nat:=[7,8,9,10,11,12,13,14,15,16,17,18,19,20,21,22,23]
def GoI(h:az)(e:Env)(P:Int×Int->Bool)(t:Nat)(L:List Nat)(p:List (Int×Int))(m:Nat)(a:Env)(z:az):Prop:=
 ∃j:Nat,m=cz p-j/\j<=cz p/\aG L e a/\bC a t j/\ay aR h z/\∀i x,i<j->p[i]?=Z x->P x=cd
def aaN(M:cu h)(k:GN h t N G r p)(B:cz p<1000000)(a b:Int):aY FF 181 [ix ⟨[t.v,N.v,G.v]⟩,fc ft a,fc ft b] h (λu z=>u=dC (decide ((a,b)∈p))/\ay aR h z):=by
 refine aY.of FE ?_;unfold wS;simp;refine aK.cut (λh1=>ay aR h h1/\di h1 h.aw [t.v,N.v,G.v]) ⟨(ay.refl M).new _ _,0,J⟩ ?_;rintro h1⟨w,v,X⟩;have T:=k.G.len;have E:=X;simp at E;refine aK.loop (GoI h1 _ (λx=>decide (x=(a,b))) 7 GoL p) ?_ (n:=cz p) ⟨0,Q,ab,aG.refl _ _,J,.refl w.ok,λi x h=>ab⟩;rintro m V H⟨j,rfl,L,C,O,l,D⟩;have d:=l.ok;have X:bY V 1=fc ft a:=C.at J;have B:bY V 2=fc ft b:=C.at J;have W:bU V 3 h.aw:=C.at J;have C:=k.cm M (w.trans l);have f:=l.get w.ok E;unfold ud;by_cases E:j<cz p
 .have A:=ch ((j:Int)+1) ab ab;have⟨x,g⟩:=aQ p j E;have⟨c,m,o,s,u,n,M,F,S,_⟩:=C.G.el g;have L:=S 0 2 ag;simp[-ax] at L;rw[u,T] at f;have⟨v,I⟩:=x;by_cases m:v=a/\I=b
  obtain⟨rfl,rfl⟩:=m;have d:(v,I)∈p:=cO g;simp[X,B,W,O,f,E,L,-ax,aB f,fV,cN,d_,d];exact w.trans l
  .have S:(v==a&&I==b)=cd:=by cases h1:v==a;rfl;cases H:I==b;rfl;exact absurd ⟨aj h1,aj H⟩ m
   simp[X,B,W,O,f,E,L,-ax,aB f,fV,cN,d_,S,A];refine⟨cz p-(j+1),ab,j+1,Q,E,?_,J,l,λi x S U=>?_⟩
   .exact aq
   by_cases n:i=j;subst n;rw[g] at U;cases U;exact decide_eq_false λe=>m (by cases e;exact⟨Q,Q⟩);exact D i x ab U
 .have:j=cz p:=ab
  subst this;have d:(a,b)∉p:=λh=>by have⟨i,q⟩:=iG h;have:=D i _ (cY.mp q).1 q;simp at this
  simp[W,O,f,T,-ax,aB f,d];exact w.trans l
def Ve(U:cu h)(k:GN h t N G r p)(B:cz p<1000000)(b:Int):aY FF 180 [ix ⟨[t.v,N.v,G.v]⟩,fc ft b] h (λu z=>u=dC (jB p b)/\ay aR h z):=by
 refine aY.of Cv ?_;unfold tH;by_cases v:b=0;subst v;simp[jB];exact(ay.refl U).new _ _;have a:(b==0)=cd:=aj v
 simp[a,v];refine aK.cut (λh1=>ay aR h h1/\di h1 h.aw [t.v,N.v,G.v]) ⟨(ay.refl U).new _ _,0,J⟩ ?_;rintro h1⟨w,v,X⟩;have e:=k.G.len;have E:=X;simp at E;refine aK.loop (GoI h1 _ (λx=>x.2==b) 5 [5,8,9,10,11,12,13,14,15,16,17,18,19,20,21,22] p) ?_ (n:=cz p) ⟨0,Q,ab,aG.refl _ _,J,.refl w.ok,λi x h=>ab⟩;rintro m v H⟨j,rfl,L,g,C,l,H⟩;have d:=l.ok;have X:bY v 1=fc ft b:=g.at J;have B:bU v 2 h.aw:=g.at J;have v:=k.cm U (w.trans l);have f:=l.get w.ok E;unfold qK;by_cases I:j<cz p
 .have A:=ch ((j:Int)+1) ab ab;have⟨x,E⟩:=aQ p j I;have⟨c,m,o,s,u,n,M,F,S,_⟩:=v.G.el E;have L:=S 1 1 ag;simp[-ax] at L;rw[u,e] at f;have⟨O,V⟩:=x;by_cases g:V=b
  .subst g;have W:jB p V=ck:=by simp only[jB,Bool.or_eq_true,List.any_eq_true];exact kd ⟨_,cO E,J⟩
   simp[X,B,C,f,I,L,-ax,aB f,W];exact w.trans l
  .have m:(V==b)=cd:=aj g
   simp[X,B,C,f,I,L,-ax,aB f,g,m,A];refine⟨cz p-(j+1),ab,j+1,Q,I,?_,J,l,λi x S O=>?_⟩
   .exact aq
   by_cases n:i=j;subst n;rw[E] at O;cases O;exact m;exact H i x ab O
 .have:j=cz p:=ab
  subst this;have W:jB p b=cd:=by unfold jB;rw[a,Bool.false_or,List.any_eq_false];intro x E;have⟨i,q⟩:=iG E;have:=H i _ (cY.mp q).1 q;simpa using this
  simp[B,C,f,e,-ax,aB f,W];exact w.trans l
def P7(h:az)(w:cu h){a b:Int×Int}(d:iL a)(u:iL b):aY FF 183 [fc ft a.1,fc ft a.2,fc ft b.1,fc ft b.2] h (λu z=>u=.tuple #[fc ft (gO a b).1,fc ft (gO a b).2]/\ay aR h z):=by
 refine aY.of FD ?_;unfold wR;have⟨f,H⟩:=a;have⟨l,I⟩:=b;by_cases o:f=0;subst o;simp[gO];exact .refl w;have b:(f==0)=cd:=aj o
 by_cases E:l=0
 .subst E;have:¬((f,H)=((0:Int),I)):=λe=>by cases e;exact o rfl
  simp[gO,o,b,this];exact .refl w
 have O:(l==0)=cd:=aj E
 by_cases U:f=1/\l=1/\H=I;obtain⟨rfl,rfl,rfl⟩:=U;simp[gO];exact .refl w;have e:gO (f,H) (l,I)=(2,0):=by unfold gO;by_cases e:f=l/\H=I;obtain⟨rfl,rfl⟩:=e;rw[bK (kd Q)];rcases d with h1|h1|h1;cases h1;exact absurd rfl o;exact absurd ⟨h1,h1,Q⟩ U;exact h1;rw[bM (λh=>h.elim o λh=>e (by cases h;exact⟨Q,Q⟩)),bM E]
 rw[e];by_cases d:f=1
 .subst d;by_cases c:l=1
  .subst c;have W:(H==I)=cd:=by simpa using λh=>U ⟨Q,Q,h⟩
   simp[b,O,W];exact .refl w
  .have V:(l==1)=cd:=aj c
   simp[b,E,O,c,V];exact .refl w
 .have c:(f==1)=cd:=aj d
  simp[o,b,E,O,d,c];exact .refl w
def CX(d:cu h)(k:GN h t N G r p)(b:cz r=n)(j:rS n v):aY FF 58 [ix ⟨[t.v,N.v,G.v]⟩,ix ⟨[dC v.1,fc ft v.2]⟩] h (λu z=>u=ix ⟨[dC (fw r v).1,fc ft (fw r v).2]⟩/\ay aR h z):=by
 refine aY.of Hk ?_;unfold yC;have⟨B,H⟩:=v;have a:¬h.aw=h.aw+1:=ab
 have V:¬h.aw=h.aw+1+1:=ab
 have M:¬h.aw+1=h.aw+1+1:=ab
 have l:∀(f:az)(U:List aa),ay aR h f->(di f (h.aw+1+1) [dC cd,fc ft 0])->ay aR h (put f (h.aw+1+1) 0 [dC cd,fc ft 0] U 0):=λf U g ⟨s,o⟩=>g.put ⟨_,o⟩ (jZ ab);have W:∀x y:List aa,ay aR h (aJ (aJ (aJ h x 0) y 0) [dC cd,fc ft 0] 0):=λx y=>(((ay.refl d).new _ _).new _ _).new _ _;cases B
 simp[fw,a,V,M];exact l _ _ (W _ _) ⟨0,J⟩
 .have⟨C,D⟩:=j rfl;dsimp only at C D;obtain⟨i,rfl⟩:∃j:Nat,H=j:=⟨H.toNat,ab⟩;have X:i<n:=ab
  have⟨x,D⟩:=aQ r i;have⟨O,B,H,j,A,m,L,S,q⟩:=k.at d D;have T:cS r (ck,(i:Int))=x:=by simp[cS,D]
  have⟨L,S⟩:=x;simp[H,j,A,m,b,-ax];have⟨f,m,H,w,E,o⟩:∃f,f=aJ (aJ (aJ h [dB (Z ⟨O,0,K⟩) n t.c,dB (Z ⟨B,0,K⟩) n N.c,dB G.a G.l G.c] 0) [dC ck,fc ft i] 0) [dC cd,fc ft 0] 0/\ay aR h f/\f.tr.get h.aw=Z (.bZ [dB (Z ⟨O,0,K⟩) n t.c,dB (Z ⟨B,0,K⟩) n N.c,dB G.a G.l G.c] cd 0 0)/\f.tr.get (h.aw+1)=Z (.bZ [dC ck,fc ft i] cd 0 0)/\f.tr.get (h.aw+1+1)=Z (.bZ [dC cd,fc ft 0] cd 0 0):=⟨_,Q,W _ _,by simp[a,V],au M,J⟩;rw[<-m];have⟨b,O⟩:=q _ H;by_cases c:L=1
  .subst c;have I:fw r (ck,(i:Int))=(cd,S):=by unfold fw;rw[T];simp
   rw[I];simp[w,E,o,X,b,O,aH,-ax,aB w,aB E];exact l _ _ H ⟨0,o⟩
  .have M:(L==1)=cd:=aj c
   have I:fw r (ck,(i:Int))=(ck,(i:Int)):=by unfold fw;rw[T];simp[c]
   rw[I];simp[w,E,o,X,b,O,aH,-ax,aB w,aB E,c,M];exact l _ _ H ⟨0,o⟩
end
def not_xor(a:Int):IntKind.i64.wrap (-1-a)=IntKind.i64.wrap ((((if IntKind.i64.signed=ck then(-1:Int) else 9223372036854775807)%2^IntKind.i64.bits).toNat ^^^ (a%2^IntKind.i64.bits).toNat:Nat):Int):=by
 rw[ai2,agl,bK rfl];have b:((-1:Int)%2^64).toNat=2^64-1:=ag
 have⟨x,o⟩:∃x:Nat,x=(a%2^64).toNat:=⟨_,Q⟩;have f:(a%2^64)=(x:Int):=ab
 have l:x<2^64:=ab
 rw[b,<-o];have e:(2^64-1) ^^^ x=2^64-1-x:=by have:=BitVec.toNat_not (x:=BitVec.ofNat 64 x);rw[<-BitVec.allOnes_xor] at this;rw[BitVec.toNat_xor,BitVec.toNat_allOnes,BitVec.toNat_ofNat,Nat.mod_eq_of_lt l] at this;exact this
 rw[e];have b:∀u v:Int,u%2^IntKind.i64.bits=v%2^IntKind.i64.bits->IntKind.i64.wrap u=IntKind.i64.wrap v:=λu v h=>by unfold IntKind.wrap;simp only[h]
 refine b _ _ ?_;rw[agl];have:((2^64-1-x:Nat):Int)=2^64-1-(x:Int):=ab
 rw[this];omega
def alz(b:Int):IntKind.u64.wrap (Wu b)=Wu b:=by
 have h1:((b%2^IntKind.i64.bits).toNat &&& 63%2^IntKind.i64.bits)<=63:=qN Nat.and_le_right ag;have f:0<=Wu b/\Wu b<=63:=by unfold Wu;rw[ch _ ab ab];omega
 unfold IntKind.wrap;simp only[show IntKind.u64.bits=64 from Q,show IntKind.u64.signed=cd from Q];have:Wu b%2^64=Wu b:=ab
 simp;omega
def WU(h:az)(a b:Int)(E:1<=op/\op<=17):aY FF 228 [fc ft op,fc ft a,fc ft b] h (λv u=>v=.tuple #[fc ft (iu op a b).1,dC (iu op a b).2]/\u=h):=by
 refine aY.of Ct ?_;unfold tF;have u:=Nj b;have o:=alz b;unfold Wu at u o;have w:op=1\/op=2\/op=3\/op=4\/op=5\/op=6\/op=7\/op=8\/op=9\/op=10\/op=11\/op=12\/op=13\/op=14\/op=15\/op=16\/op=17:=ab
 rcases w with rfl|rfl|rfl|rfl|rfl|rfl|rfl|rfl|rfl|rfl|rfl|rfl|rfl|rfl|rfl|rfl|rfl;simp[iu];simp[iu];simp[iu];simp[iu]
 .by_cases f:b=0;subst f;simp[iu]
  .have l:(b==0)=cd:=aj f
   simp[iu,f,l]
 .by_cases f:b=0;subst f;simp[iu]
  .have l:(b==0)=cd:=aj f
   simp[iu,f,l]
 simp[iu];simp[iu];simp[iu];simp[iu,jN,u,o,Wu];simp[iu,jN,u,o,Wu];cases e:a==b<;>simp[iu,An,e];cases e:a !=b<;>simp[iu,An,e];by_cases e:a<b<;>simp[iu,An,e];by_cases e:a<=b<;>simp[iu,An,e];simp[iu];simp[iu,not_xor]
section
variable{h d:az}{m N G:SV}{b p:List (Int×Int)}{n:Nat}
def ad1(I:cu h)(k:GN h m N G b p)(z:cz b=n){x:GI}{A:SV}(y:rS n x.a)(F:rS n x.b):aY FF 184 [ix ⟨[m.v,N.v,G.v]⟩,ix ⟨jj x A⟩] h (λu d=>u=.tuple #[fc ft (qC b x).1,fc ft (qC b x).2]/\ay aR h d):=by
 refine aY.of FG ?_;unfold wT;have U:¬h.aw=h.aw+1:=ab
 simp[jj,aM,U];by_cases h1:x.op<1
 .have H:qC b x=(2,0):=by unfold qC;rw[bM ab]
  simp[h1,H,U];exact((ay.refl I).new _ _).new _ _
 by_cases g:17<x.op
 .have H:qC b x=(2,0):=by unfold qC;rw[bM ab]
  simp[h1,g,H,U];exact((ay.refl I).new _ _).new _ _
 have s:1<=x.op/\x.op<=17:=ab
 have H:qC b x=xr x.op (cS b x.a) (cS b x.b):=by unfold qC;rw[bK s]
 rw[H];simp[h1,g,U];refine bh.cut (λa=>ay aR h a/\a.tr.get h.aw=Z (.bZ [m.v,N.v,G.v] cd 0 0)/\a.tr.get (h.aw+1)=Z (.bZ [fc ft x.op,fc ft x.dst,dC x.a.1,fc ft x.a.2,dC x.b.1,fc ft x.b.2,fc ft x.fn,dB A.a A.l A.c] cd 0 0)) ⟨((ay.refl I).new _ _).new _ _,au U,J⟩ ?_;rintro a⟨W,q,P⟩;refine bh.call (V:=λu d=>u=.tuple #[fc ft (cS b x.a).1,fc ft (cS b x.a).2]/\ay aR a d) (aj (DO W.ok (k.cm I W) z y)) ?_;rintro _ S⟨rfl,E⟩;have V:=W.trans E;have j:=E.get W.ok q;have c:=E.get W.ok P;simp at j;simp[j,c];refine bh.call (V:=λu d=>u=.tuple #[fc ft (cS b x.b).1,fc ft (cS b x.b).2]/\ay aR S d) (aj (DO E.ok (k.cm I V) z F)) ?_;rintro _ S⟨rfl,L⟩;have f:=V.trans L;have y:=L.get E.ok c;generalize cS b x.a=ya at*;generalize cS b x.b=yb at*;have⟨W,v⟩:=ya;have⟨o,O⟩:=yb;by_cases l:W=2
 subst l;simp[xr];exact f;have B:(W==2)=cd:=fP l;by_cases w:o=2;subst w;simp[xr,l,B];exact f;have X:(o==2)=cd:=fP w;by_cases z:W=0;subst z;simp[xr,w,X];exact f;have q:(W==0)=cd:=fP z;by_cases M:o=0;subst M;simp[xr,l,B,z,q];exact f;have H:(o==0)=cd:=fP M;have L:xr x.op (W,v) (o,O)=if(iu x.op v O).2=ck then(1,(iu x.op v O).1) else(2,0):=by simp[xr,l,w,z,M]
 rw[L];simp[l,B,w,X,z,q,M,H,y];refine bh.call (aj (WU S v O s)) ?_;rintro _ c⟨rfl,S⟩;rw[S];generalize iu x.op v O=t;have⟨W,M⟩:=t;cases M;simp;exact f;simp;exact f
end
structure BU(h0 hz:az)(pr:Nat->Prop)(h:az)(X d1 d2 n:Nat)(fy gy:List (Int×Int)):Prop where
 g:ay aR h0 h
 gz:ay (λc=>¬pr c) hz h
 hX:∃(G:SV) (s:Nat),h.tr.get X=Z (.bZ [dB (Z ⟨d1,0,K⟩) n n,dB (Z ⟨d2,0,K⟩) n n,G.v] cd 0 s)/\bm jC h0.aw h G.v gy/\∀c,bx G.v c->c≠X/\c≠d1/\c≠d2/\¬pr c
 h1:di h d1 (encI.flat (fy.map (·.1)))
 h2:di h d2 (encI.flat (fy.map (·.2)))
 fl:cz fy=n
 fk:AG fy
 lo:h0.aw<=X/\h0.aw<=d1/\h0.aw<=d2
 ne:X≠d1/\X≠d2/\d1≠d2
 np:¬pr X/\¬pr d1/\¬pr d2
 pl:∀c,pr c->c<hz.aw
section
variable{p z h A:az}{t pr':Nat->Prop}{X d m n:Nat}{fy r:List (Int×Int)}
def BU.cm(w:BU p z t h X d m n fy r)(g:ay aR h A):BU p z t A X d m n fy r:=by have⟨G,s,I,l,E⟩:=w.hX;have⟨H,h1⟩:=w.h1;have⟨o,u⟩:=w.h2;have f:=w.g.ok;exact⟨w.g.trans g,w.gz.trans g.cm,⟨G,s,g.get f I,l.grow f g ai,E⟩,⟨H,g.get f h1⟩,⟨o,g.get f u⟩,w.fl,w.fk,w.lo,w.ne,w.np,w.pl⟩
def BU.base(w:BU p z t h X d m n fy r)(g:ay aR h A)(I:∀c,pr' c->t c\/h.aw<=c)(U:∀c,pr' c->c<A.aw):BU p A pr' A X d m n fy r:=by
 have o:=w.cm g;have⟨G,s,b,O,a⟩:=o.hX;have H:=w.hX;have⟨f,h1⟩:=w.h1;obtain⟨f,f⟩:=w.h2;have E:=w.g.ok;have⟨u,i,l,H,W⟩:=w.hX;have W:=E.wf _ _ l;have W:=E.wf _ _ h1;have W:=E.wf _ _ f;have f:G=u:=by
  have:=g.get E l;rw[b] at this;have e:(G.a=u.a/\G.l=u.l/\G.c=u.c)/\s=i:=aj this
  cases G;cases u;simpa using e.1
 subst f;have u:∀c,bx G.v c->c<h.aw:=λc f=>by exact(bm.arr H).cg E f
 refine⟨o.g,.refl o.g.ok,⟨G,s,b,O,λc f=>⟨(a c f).1,(a c f).2.1,(a c f).2.2.1,λV=>(I c V).elim (a c f).2.2.2 λU=>av (u c f)⟩⟩,o.h1,o.h2,w.fl,w.fk,w.lo,w.ne,?_,U⟩;exact⟨λe=>(I _ e).elim w.np.1 ab,λe=>(I _ e).elim w.np.2.1 ab,λe=>(I _ e).elim w.np.2.2 ab⟩
def BU.back{hz0:az}(w:BU p z t h X d m n fy r)(g:ay (λc=>¬pr' c) hz0 z)(f:∀c,pr' c->t c)(E:∀c,pr' c->c<hz0.aw):BU p hz0 pr' h X d m n fy r:=by have⟨G,s,H,u,l⟩:=w.hX;exact⟨w.g,g.trans (w.gz.cU λc _ h e=>h (f c e)),⟨G,s,H,u,λc o=>⟨(l c o).1,(l c o).2.1,(l c o).2.2.1,λe=>(l c o).2.2.2 (f c e)⟩⟩,w.h1,w.h2,w.fl,w.fk,w.lo,w.ne,⟨λe=>w.np.1 (f _ e),λe=>w.np.2.1 (f _ e),λe=>w.np.2.2 (f _ e)⟩,E⟩
def BU.py(w:BU p z t h X d m n fy r)(I:k<n){y:Int×Int}(i:iL y):BU p z t (put (put h d k (encI.flat (fy.map (·.1))) [fc ft y.1] 0) m k (encI.flat (fy.map (·.2))) [fc ft y.2] 0) X d m n (fy.set k y) r:=by
 have b:=w.g.ok;have⟨G,s,W,v,u⟩:=w.hX;have⟨j,h1⟩:=w.h1;have⟨a,V⟩:=w.h2;have⟨f,q,H⟩:=w.ne;have o:=w.fl;have U:=encI.jV (fy.map (·.1)) k y.1 (by simpa [o] using I);have O:=encI.jV (fy.map (·.2)) k y.2 (by simpa [o] using I);simp only[Dp,Vq,Nat.mul_one] at U O;have g:=(ay.refl b).put (S:=λc=>c=d\/c=m) (off:=k) (vs:=[fc ft y.1]) ⟨j,h1⟩ (kd (jZ Q));have l:(put h d k (encI.flat (fy.map (·.1))) [fc ft y.1] 0).tr.get m=Z (.bZ (encI.flat (fy.map (·.2))) cd 0 a):=by rw[dO,bM (λe=>H e.symm),V]
 have j:(put h d k (encI.flat (fy.map (·.1))) [fc ft y.1] 0).tr.get d=Z (.bZ (encI.flat ((fy.set k y).map (·.1))) cd 0 h.clock):=by rw[dO,bK Q,U,cL]
 have E:(put h d k (encI.flat (fy.map (·.1))) [fc ft y.1] 0).tr.get X=Z (.bZ [dB (Z ⟨d,0,K⟩) n n,dB (Z ⟨m,0,K⟩) n n,G.v] cd 0 s):=by rw[dO,bM f,W]
 generalize put h d k (encI.flat (fy.map (·.1))) [fc ft y.1] 0=h3 at*;have f:=g.put (off:=k) (vs:=[fc ft y.2]) ⟨a,l⟩ (kd (kd Q));have l:ay aR p (put h3 m k (encI.flat (fy.map (·.2))) [fc ft y.2] 0):=w.g.trans' f ai λc a e=>by have:=w.lo;rcases e with e|e<;>omega
 refine⟨l,w.gz.trans (f.cU λc _ e=>by rcases e with e|e<;>rw[e];exact w.np.2.1;exact w.np.2.2),⟨G,s,by rw[dO,bM q,E],v.grow b f (λb E e=>e.elim (u b E).2.1 (u b E).2.2.1),u⟩,⟨h.clock,by rw[dO,bM H,j]⟩,⟨h3.clock,by rw[dO,bK Q,O,cL]⟩,au o,w.fk.set i,w.lo,w.ne,w.np,w.pl⟩
def BU.aEX(w:BU p z t h X d m n fy r){x:Int×Int}(H:fy[k]?=Z x){a:Int}(g:iL (a,x.2)):BU p z t (put h d k (encI.flat (fy.map (·.1))) [fc ft a] 0) X d m n (fy.set k (a,x.2)) r:=by
 have u:=w.g.ok;have⟨G,s,W,l,E⟩:=w.hX;have⟨V,h1⟩:=w.h1;have⟨b,O⟩:=w.h2;obtain⟨U,i,i⟩:=w.ne;have I:=(cY.mp H).1;have o:=encI.jV (fy.map (·.1)) k a (aj I);simp only[Dp,Vq,Nat.mul_one] at o;have f:=(ay.refl u).put (S:=(· =d)) (off:=k) (vs:=[fc ft a]) ⟨V,h1⟩ (kd Q);have j:(fy.set k (a,x.2)).map (·.2)=fy.map (·.2):=by rw[cL];exact Bo (by rw[gM,H];rfl)
 exact⟨w.g.trans' f ai λc H e=>av w.lo,w.gz.trans (f.cU λc _ e=>by rw[e];exact w.np.2.1),⟨G,s,by rw[dO,bM U,W],l.grow u f (λf W e=>(E f W).2.1 e),E⟩,⟨h.clock,by rw[dO,bK Q,o,cL]⟩,⟨b,by rw[dO,bM (λe=>i e.symm),O,j]⟩,by simp[w.fl],w.fk.set g,w.lo,w.ne,w.np,w.pl⟩
def BU.app(w:BU p z t h X d m n fy r){G o:SV}{s:Nat}(V:eR h X [dB (Z ⟨d,0,K⟩) n n,dB (Z ⟨m,0,K⟩) n n,G.v] s){x:Int×Int}(g:ay (bx G.v) h A)(I:bm jC p.aw A o.v (r++[x]))(a:∀b,bx o.v b->h.aw<=b):BU p z t (put A X 2 [dB (Z ⟨d,0,K⟩) n n,dB (Z ⟨m,0,K⟩) n n,G.v] [o.v] 0) X d m n fy (r++[x]):=by
 have l:=w.g.ok;have⟨u,H,f,W,E⟩:=w.hX;have⟨j,h1⟩:=w.h1;have⟨i,U⟩:=w.h2;have⟨k,q,O⟩:=w.ne;have O:=l.wf _ _ f;have O:=l.wf _ _ h1;have O:=l.wf _ _ U;have O:G=u:=by
  rw[V] at f;have e:(G.a=u.a/\G.l=u.l/\G.c=u.c)/\s=H:=aj f
  cases G;cases u;simpa using e.1
 subst O;have u:=g.get l V (λe=>(E X e).1 Q);have G:=g.get l h1 (λe=>(E d e).2.1 Q);have f:=g.get l U (λe=>(E m e).2.2.1 Q);have H:=(ay.refl g.ok).put (S:=(· =X)) (off:=2) (vs:=[o.v]) ⟨s,u⟩ (kd Q);have O:=w.gz.aw;refine⟨(w.g.trans' g ai λc O e=>av (W.of e)).trans' H ai λc O e=>av w.lo,(w.gz.trans (g.cU λc _ e=>(E c e).2.2.2)).trans (H.cU λc _ e=>by rw[e];exact w.np.1),⟨o,A.clock,by rw[dO,bK rfl];rfl,I.grow g.ok H (λb W e=>av (a b W)),λc O=>?_⟩,⟨j,by rw[dO,bM (λe=>k e.symm),G]⟩,⟨i,by rw[dO,bM (λe=>q e.symm),f]⟩,w.fl,w.fk,w.lo,w.ne,w.np,w.pl⟩;have:=a c O;exact⟨ab,ab,ab,λe=>av (w.pl c e)⟩
def BU.rd(w:BU p z t h X d m n fy r){x:Int×Int}(f:fy[k]?=Z x):cy h d k 1=Z [fc ft x.1]/\cy h m k 1=Z [fc ft x.2]:=by
 have⟨I,h1⟩:=w.h1;have⟨H,u⟩:=w.h2;have E:=(cY.mp f).1;have l:=encI.tf (fy.map (·.1)) k x.1 (by rw[gM,f];rfl);have o:=encI.tf (fy.map (·.2)) k x.2 (by rw[gM,f];rfl);simp only[Dp,Nat.mul_one] at l o;refine⟨?_,?_⟩
 rw[dx h1 (by rw[encI.dT];simp;omega),l];rfl;rw[dx u (by rw[encI.dT];simp;omega),o];rfl
structure C1(M C:List (Int×Int)->Prop)(fy fz:List (Int×Int)):Prop where
 up:qf fy fz
 ls:∀m,M m->qf fy m->qf fz m
 c:C fz
def C1.refl{M C:List (Int×Int)->Prop}{f:List (Int×Int)}(c:C f):C1 M C f f:=⟨.refl _,λ_ _ h=>h,c⟩
def C1.trans{M C D F:List (Int×Int)->Prop}{o l f:List (Int×Int)}(a:C1 M C o l)(b:C1 M D l f)(k:C l->qf l f->D f->F f):C1 M F o f:=⟨a.up.trans b.up,λm h1 u=>b.ls m h1 (a.ls m h1 u),k a.c b.up b.c⟩
def C1.set{M:List (Int×Int)->Prop}{f:List (Int×Int)}{k:Nat}{a x:Int×Int}(l:f[k]?=Z a)(u:∀m,M m->qQ x (pG m k)):C1 M (λf=>qQ x (pG f k)) f (f.set k (gO a x)):=
 ⟨.up l (Nh a x),λm h1 o=>o.set (cY.mp l).1 (join_le (by have:=o k;rwa [Zd l] at this) (u m h1)),by rw[Hw (cY.mp l).1,bK J];exact Wq a x⟩
def VT(M C:List (Int×Int)->Prop)(p z:az)(t:Nat->Prop)(X d m n:Nat)(fy r:List (Int×Int))(A:az):Prop:=∃a,BU p z t A X d m n a r/\C1 M C fy a
end
end Go.Proofs.YtdhnndleffachaaGreatDoor
