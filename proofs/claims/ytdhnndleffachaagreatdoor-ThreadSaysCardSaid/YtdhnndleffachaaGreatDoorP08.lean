/- Parts of the proof. -/
import Derived.Test.YtdhnndleffachaaGreatDoorP07
import Derived.Test.YtdhnndleffachaaGreatDoorP06
open BEq renaming beq->aay
open Classical renaming not_not->Di
open Go renaming Value->aa
open Nat renaming beq->ar,beq_refl->lW,le_succ->hQ,lt_trichotomy->xH,sub_self->r6,zero_le->kp
open Option.some renaming inj->bI
open Option renaming some->Z,none->K,elim->xb,getD_some->da,map_eq_some_iff->cQ
open Bool renaming false->b9,true->cd
open List renaming length->Y,any_eq_false->NS,any_eq_true->QZ,drop_eq_getElem_cons->fj,drop_length->cG,filter_append->e6,filter_eq_nil_iff->ns,filter_eq_self->fA,find?_append->Ng,find?_cons_of_pos->CD,find?_eq_none->oc,flatMap_cons->ei,getElem?_drop->gD,getElem?_eq_none_iff->ri,getElem?_inj->ga,getElem?_mapIdx->bn,getElem?_zip_eq_some->fi,length->dk,length_erase_of_mem->rA,length_pos_iff->HQ,length_replicate->th,length_singleton->DM,length_zip->tl,map_append->aW,map_congr_left->bf,map_id->rk,map_set->dr,map_snd_zip->sc,mem_append_left->ba,mem_append_right->aT,mem_cons->bd,mem_flatMap->a8,mem_of_find?_eq_some->lk,mem_of_mem_drop->pv,mem_singleton->br,of_mem_zip->b8,pairwise_iff_getElem->gY,range->aA,replicate->an,singleton_append->Dn,take_append_drop->ki
open Go.Value renaming slice->c6,bool->dd,pointer->dB,int->dC,string->eT,agg->eU,int->aL,slice->bo,string->eK
open Go.IntKind renaming i64->ef
open Or renaming inl->fc,inr->ft
set_option linter.all false
set_option maxHeartbeats 1000000
namespace Go.Proofs.YtdhnndleffachaaGreatDoor
open Go.AI
variable{B c L0 P W:SV}{BY F Kp R U V X aF b d i j k m n n0 N p u E sK H sU sV D t:Nat}{L pk xs:List Int}{C:bJ->Env->aB->Prop}{a5 b5 fv:aa}{bs:List GB}{s:List aa}{e:Env}{a:List (Int×(Bool×Int))}{f:GF}{l S x y I:GB}{h O g A:aB}{o row M:List (Bool×Int)}{name:ByteArray}{p0 rg:Int}{ps:List GP}{q:GP}{qs:List (GP×SV)}{res:Nat×List GB}{v w:Bool×Int}{G:List SV}{z:List YB}
def RtZ(name:ByteArray)(p n:Nat)(bs:List GB)(h:aB)(v:aa)(b:aB):Prop:=
 ∃a,CU (bu bs (dU bs)) a/\(∀x,wP a x)/\js name p (iQ p a).1 (iQ p a).2 h v b
def RtI(name:ByteArray)(p:Nat)(r:Int)(h:aB)(Kp:List GB)(m:Nat)(b:Env)(a:aB):Prop:=
 ∃(g:List GB) (B:SV) (z:List YB),m=Y g/\CU Kp g/\cg b 2 (h.ax+1)/\cg b 3 (h.ax+2)/\(az aV h a/\h.ax+3<=a.ax)/\(c_ a (h.ax+1) [eT ⟨⟨[]⟩⟩,dC ef 0,dC ef 0,c6 K 0 0])/\(c_ a (h.ax+2) (aC name p r B))/\FZ a (h.ax+3) B z/\z.map YB.g=g
def Zf(d:cy O)(f:az aV O h){name:ByteArray}{r:Int}(k:mm O B bs)(S:St n bs)(y:p<=n)(hn:n<1000):aY FF 17 [eU ⟨aC name p r B⟩] h (RtZ name p n bs h):=by
 have i:=f.ok;have E:=S.E;have P:=S.Jg;have N:¬h.ax=h.ax+1:=J
 have U:¬h.ax=h.ax+1+1:=J
 have x:=E.Gu.o;have V:=x.len;have V:=E.n50;have V:Y (bu bs (dU bs))=Y (dU bs):=by simp[bu]
 refine aY.of Ei ?_;unfold vv;simp[aC,N,aK,bh,dO,-ay];refine ck.cut (λg=>az aV h g/\g.ax=h.ax+3/\g.tr.get h.ax=Z (.ch (aC name p r B) b9 0 0)/\(c_ g (h.ax+1) [eT ⟨⟨[]⟩⟩,dC ef 0,dC ef 0,c6 K 0 0])/\g.tr.get (h.ax+2)=Z (.ch [eT ⟨⟨[]⟩⟩,dC ef 0,dC ef 0,c6 K 0 0] b9 0 0)) ?_ ?_;exact⟨((((az.refl i).new _ _).new _ _).tick).new _ _,ag,by simp[aC,N,U],⟨0,ag⟩,ag⟩;rintro g⟨G,U,U,⟨H,V⟩,i⟩;have o:=f.ax;refine ck.call (V:=λv q=>az aV g q/\∃L:SV,v=L.v/\bx encI g.ax q L.v (nI (dU bs))) (by simpa [aC] using IT G.ok (name:=name) (p:=p) (r:=r) (k.mono d (f.trans G)) E.ends E.n1) ?_;rintro _ T⟨D,w,rfl,w⟩;have j:=(f.trans G).trans D;have f:=D.get G.ok U;have U:=D.get G.ok V;have V:=D.get G.ok i;simp[aC] at f;simp[f];refine ck.call (V:=js name p r (bu bs (dU bs)) T) (by simpa [aC] using E6 j.ok (.refl j.ok) (name:=name) (p:=p) (r:=r) (k.mono d j) E P w.sl J x.lt) ?_;rintro _ x⟨f,j,z,rfl,k,w,F⟩;have w:=f.get D.ok U;have d:=f.get D.ok V;have P:h.ax+2=h.ax+1+1:=Q;rw[P] at d;simp[aC,d];have i:=aX (off:=0) (vs:=[eT name,dC ef p,dC ef r,j.v]) f.ok d;have P:(put x (h.ax+1+1) 0 [eT ⟨⟨[]⟩⟩,dC ef 0,dC ef 0,c6 K 0 0] [eT name,dC ef p,dC ef r,j.v] 0).tr.get (h.ax+1+1)=Z (.ch [eT name,dC ef p,dC ef r,j.v] b9 0 x.clock):=by rw[bc];rfl
 simp only[SV.AK] at i P;have T:=i.get f.ok w J;have w:=G.ax;have w:=D.ax;have U:=k.go f.ok i (λc l e d=>aw (k.new l c d));have k:=(G.trans D).trans f;have w:az aV h _:=k.trans' i aj (λc k e=>J);generalize put x (h.ax+1+1) 0 _ _ 0=h4 at*;refine aN.loop (RtI name p r h (bu bs (dU bs))) ?_ (n:=Y (bu bs (dU bs))) ⟨_,j,z,Q,.refl _,ag,ag,⟨w,by have:=f.ax;have:=i.ax;omega⟩,⟨_,T⟩,⟨_,by simpa [aC] using P⟩,U.cX J,F⟩;rintro m P q⟨P,P,I,rfl,s,x,j,⟨w,U⟩,⟨U,T⟩,⟨U,f⟩,U,V⟩;have i:=w.ok;have A:=s.st (S.kept E.Gu);subst V;unfold tg;simp[j,aC] at f⊢;simp[f];refine bm.call (V:=aqg (I.map YB.g) q) (by simpa [aC] using U1 i (.refl i) (name:=name) (p:=p) (r:=r) U.view A.E) ?_;rintro _ V⟨a,k⟩;have F:=a.get i f;have W:=a.get i T;have q:=w.ax;have q:=a.ax;have q:=U.view.mono i a;rcases k with⟨rfl,no⟩|⟨b,t,X,T',rfl,c⟩
 simp[x,j,F];refine bm.call (V:=js name p (iQ p (I.map YB.g)).1 (iQ p (I.map YB.g)).2 V) (by simpa [aC] using Va a.ok (.refl a.ok) (name:=name) (p:=p) (r:=r) q A.E A.Jg ((A.kept A.E.Gu).metIn y hn)) ?_;rintro _ U⟨u,C,T,rfl,i,x6,y⟩;have M:=u.get a.ok W;simp[aC,x,M];have⟨f,M⟩:c_ U (h.ax+1) [eT ⟨⟨[]⟩⟩,dC ef 0,dC ef 0,c6 K 0 0]:=⟨_,M⟩;have f:=aX (off:=0) (vs:=[eT name,dC ef p,dC ef (iQ p (I.map YB.g)).1,c6 C.a C.l C.c]) u.ok M;refine⟨_,s,no,((w.trans a).trans u).trans' f aj (λc k e=>J),C,T,by simp[aC],(i.go u.ok f λc l e d=>aw (i.new l c d)).cX J,x6,y⟩
 .have bl:=(cR.mp c.hb).1;have nb:¬(b:Int)<0:=J
  simp[x,j,F,nb];refine bm.call (V:=js name p r (bu (iW (I.map YB.g) b t T') (j7 (Y (I.map YB.g)) t)) V) (by simpa [aC] using RM a.ok (.refl a.ok) (name:=name) (p:=p) (r:=r) q A.E A.Jg c (c.ebJ A.E) (A.inJ c) (by have:=A.ll (cK c.hb);have:=A.ll (cK c.ht);omega)) ?_;rintro _ U⟨u,C,T,rfl,i,x6,y⟩;have q:=u.get a.ok F;have M:=u.get a.ok W;simp[aC,j,q];have⟨W,q⟩:c_ U (h.ax+2) [eT name,dC ef p,dC ef r,c6 P.a P.l P.c]:=⟨_,q⟩;have f:=aX (off:=0) (vs:=[eT name,dC ef p,dC ef r,c6 C.a C.l C.c]) u.ok q;have q:=f.get u.ok M J;have d:Y (bu (iW (I.map YB.g) b t T') (j7 (Y (I.map YB.g)) t))<Y I:=by have P:=(cR.mp c.ht).1;have g:Y (j7 (Y (I.map YB.g)) t)<Y (aA (Y (I.map YB.g))):=List.length_filter_lt_length_iff_exists.2 ⟨t,QM.2 P,ag⟩;simpa [bu] using g
  refine⟨_,d,_,C,T,Q,.step s c,av x,av j,⟨((w.trans a).trans u).trans' f aj (λc k e=>J),by have:=u.ax;have:=f.ax;omega⟩,⟨_,q⟩,⟨_,by rw[bc];rfl⟩,(i.go u.ok f λc l e d=>aw (i.new l c d)).cX J,y⟩
def kQ(ps:List GP)(v:Bool×Int):Option GP:=ps.find? λq=>decide (v=(cd,q.dst))
def ia(ps:List GP)(k:Nat)(v:Bool×Int):Bool×Int:=(kQ ps v).elim v λq=>(q.row[k]?).getD (b9,0)
def iq(x:GB)(k:Nat):Int:=
 if x.kind=2 then(x.to[0]?).getD 0 else if x.kind=3 then(kQ x.aP x.on).elim (-1) λq=>if((q.row[k]?).getD (b9,0)).1=cd then-1 else(x.to[if((q.row[k]?).getD (b9,0)).2=0 then 1 else 0]?).getD 0 else-1
structure eB(bs:List GB)(b k p t:Nat)(x:GB):Prop where
 hx:bs[b]?=Z x
 b0:b≠0
 em:x.list=[]
 no:∀q∈x.aP,(cd,q.dst)∉pZ bs b (Y bs)
 lt:iq x k=t
 hp:(aI bs b)[k]?=Z (p:Int)
 tb:t≠b
 pb:p≠b
 pt:(p:Int)∉aI bs t
def SJ(bs:List GB)(b k p t:Nat)(x:GB):Prop:=eB bs b k p t x/\(∀s a c l o,s<b->¬eB bs s a c l o)/\∀a c l o,a<k->¬eB bs b a c l o
def Z6(bs:List GB):Prop:=∀b k p t x,¬eB bs b k p t x
def SJ.eq{b k p t a c d l:Nat}{x e:GB}(u:SJ bs b k p t x)(v:SJ bs a c d l e):b=a/\k=c/\p=d/\t=l/\x=e:=by
 have o:b=a:=by rcases xH b a with h|h|h;exact absurd u.1 (v.2.1 _ _ _ _ _ h);exact h;exact absurd v.1 (u.2.1 _ _ _ _ _ h)
 subst o;have C:k=c:=by rcases xH k c with h|h|h;exact absurd u.1 (v.2.2 _ _ _ _ h);exact h;exact absurd v.1 (u.2.2 _ _ _ _ h)
 subst C;have g:=u.1.hp.symm.trans v.1.hp;have s:=u.1.hx.symm.trans v.1.hx;have A:p=d:=aw (bI g)
 cases s;have D:=u.1.lt.symm.trans v.1.lt;exact⟨Q,Q,A,J,Q⟩
def uW(pk:List Int)(p:Int):Nat:=Y (pk.filter λa=>decide (a<p))
def ahG(bs:List GB)(b k t:Nat)(x:GB)(q:GP):Bool×Int:=ia x.aP k ((q.row[(aO (aI bs t) b).toNat]?).getD (b9,0))
def wL(bs:List GB)(b k p t:Nat)(x:GB)(i:Nat)(q:GP):GP:=
 if i=t then⟨q.dst,jR q.row (uW (aI bs t) p) (ahG bs b k t x q)⟩ else if i=b then⟨q.dst,fQ q.row k⟩ else q
def Cj(bs:List GB)(b k p t:Nat)(x:GB)(i:Nat)(y:GB):GB:=
 {y with aP:=y.aP.map (wL bs b k p t x i),to:=if i=p then y.to.map (λu=>if u=(b:Int) then(t:Int) else u) else y.to}
def xf(bs:List GB)(b k p t:Nat)(x:GB):List GB:=bs.mapIdx (Cj bs b k p t x)
def Rh{l m:List Int}(o:l.Nodup)(b:m.Nodup)(h:∀a,a∈l↔a∈m):Y l=Y m:=
 Nat.le_antisymm (YS o λa c=>(h a).1 c) (YS b λa c=>(h a).2 c)
section
variable{bs:List GB}{b k p t n:Nat}{x:GB}
def JS:Y (xf bs b k p t x)=Y bs:=by simp[xf]
def H9(h:bs[i]?=Z y):(xf bs b k p t x)[i]?=Z (Cj bs b k p t x i y):=by unfold xf;rw[bn,h];rfl
def MQ(h:(xf bs b k p t x)[i]?=Z I):∃y,bs[i]?=Z y/\I=Cj bs b k p t x i y:=by unfold xf at h;rw[bn] at h;have⟨y,g,a⟩:=cQ.1 h;exact⟨y,g,a.symm⟩
def Ia(h:I∈xf bs b k p t x):∃(i:Nat) (y:GB),bs[i]?=Z y/\y∈bs/\I=Cj bs b k p t x i y:=by have⟨i,c⟩:=iF h;have⟨y,g,a⟩:=MQ c;exact⟨i,y,g,cK g,a⟩
def LB(E:EB bs)(o:y∈bs)(h:iq y k=t):(t:Int)∈y.to:=by unfold iq at h;rcases E.kind y o with⟨e,_⟩|⟨e,u,c⟩|⟨e,u,v,a,_⟩;rw[bM J,bM J] at h;omega;rw[bH e,c] at h;rw[c,<-h];simp;rw[bM J,bH e,a] at h;rw[a];rcases l:kQ y.aP y.on with _|q;rw[l] at h;simp at h;rw[l] at h;dsimp only[xb] at h;split at h;omega;split at h<;>simp at h<;>simp[h]
def eB.Gl(W:eB bs b k p t x)(E:EB bs):(t:Int)∈x.to:=LB E (cK W.hx) W.lt
def eB.t1(W:eB bs b k p t x)(E:EB bs):1<=t/\t<Y bs:=aw (E.to x (cK W.hx) t (W.Gl E))
def eB.bt(W:eB bs b k p t x)(E:EB bs):(b:Int)∈aI bs t:=cu.2 ⟨b,Q,x,W.hx,W.Gl E⟩
def eB.pm(W:eB bs b k p t x):∃y,bs[p]?=Z y/\(b:Int)∈y.to:=by
 have⟨i,e,y,g,a⟩:=cu.1 (cK W.hp);have:i=p:=J
 subst this;exact⟨y,g,a⟩
def H8(W:eB bs b k p t x){a:Int} :a∈aI (xf bs b k p t x) i↔(a∈aI bs i/\¬(i=b/\a=p))\/(i=t/\a=p):=by have⟨H,o,E⟩:=W.pm;rw[cu,cu];constructor;rintro⟨j,rfl,I,A,c⟩;obtain⟨y,l,rfl⟩:=MQ A;unfold Cj at c;dsimp only at c;by_cases e:j=p;subst e;rw[bH rfl] at c;have⟨u,D,s⟩:=iT.1 c;split at s;exact ft ⟨J,Q⟩;rename_i C;subst s;exact fc ⟨⟨j,Q,y,l,D⟩,λh=>C J⟩;rw[bM e] at c;exact fc ⟨⟨j,Q,y,l,c⟩,λh=>e J⟩;rintro(⟨⟨j,rfl,y,l,c⟩,G⟩|⟨rfl,rfl⟩);refine⟨j,Q,_,H9 l,?_⟩;unfold Cj;dsimp only;by_cases e:j=p;subst e;rw[bH rfl];exact iT.2 ⟨i,c,by rw[bM (λh=>G ⟨J,Q⟩)]⟩;rw[bM e];exact c;refine⟨p,Q,_,H9 o,?_⟩;unfold Cj;dsimp only;rw[bH rfl];exact iT.2 ⟨b,E,ag⟩
def Zv(W:eB bs b k p t x)(E:EB bs)(C:bs[i]?=Z y)(u:q∈y.aP):Y ((wL bs b k p t x i q).row)=Y (aI (xf bs b k p t x) i):=by
 have o:=E.rows i y C q u;have d:=eC bs i;have c:=eC (xf bs b k p t x) i;unfold wL;by_cases l:i=t
 .subst l;rw[bH rfl];dsimp only;have g:uW (aI bs i) p<=Y q.row:=by rw[o];exact NN _ _
  rw[BX g,o,Rh (m:=(p:Int)::aI bs i) c (List.nodup_cons.2 ⟨W.pt,d⟩) λa=>?_];rfl
  .rw[H8 W,bd];have:=W.tb;constructor
   rintro(h|h);exact ft h.1;exact fc h.2;rintro(h|h);exact ft ⟨Q,h⟩;exact fc ⟨h,λh=>J⟩
 .rw[bM l];by_cases s:i=b
  .subst s;rw[bH rfl];dsimp only;have D:=(cR.mp W.hp).1;rw[j6 J,o,Rh (m:=(aI bs i).erase p) c (d.erase _) λa=>?_,rA (cK W.hp)];rw[H8 W,d.mem_erase_iff];constructor
   rintro(h|h);exact⟨λe=>h.2 ⟨Q,e⟩,h.1⟩;exact absurd h.1 l;rintro⟨g,A⟩;exact fc ⟨A,λh=>g h.2⟩
  rw[bM s,o];refine Rh d c λa=>?_;rw[H8 W];constructor;intro h;exact fc ⟨h,λh=>s h.1⟩;rintro(h|h);exact h.1;exact absurd h.1 l
def EB.str(E:EB bs)(W:eB bs b k p t x):EB (xf bs b k p t x):=by
 have⟨M,H,N⟩:=W.pm;have f:=W.Gl E;have O:=W.t1 E;refine⟨by rw[JS];exact E.n1,by rw[JS];exact E.n50,λI l=>?_,λI l u A=>?_,λi I l f f=>?_,λI l=>?_⟩
 .obtain⟨i,y,s,o,rfl⟩:=Ia l;have Kp:=E.kind y o;unfold Cj;dsimp only;by_cases e:i=p
  .subst e;rw[bH rfl];have C:(t:Int)∉y.to:=λh=>W.pt (cu.2 ⟨i,Q,y,s,h⟩);rcases Kp with⟨a,c⟩|⟨a,u,c⟩|⟨a,u,v,c,d⟩
   exact fc ⟨a,by rw[c];rfl⟩;exact ft (fc ⟨a,_,by rw[c];rfl⟩);refine ft (ft ⟨a,_,_,by rw[c];rfl,?_⟩);rw[c] at C;simp at C;dsimp only;split<;>split<;>omega
  rw[bM e];exact Kp
 obtain⟨i,y,s,o,rfl⟩:=Ia l;rw[JS];unfold Cj at A;dsimp only at A;split at A;obtain⟨w,D,rfl⟩:=iT.1 A;split;omega;exact E.to y o w D;exact E.to y o u A;obtain⟨y,s,rfl⟩:=MQ l;obtain⟨q,G,rfl⟩:=iT.1 f;exact Zv W E s G;obtain⟨i,y,s,o,rfl⟩:=Ia l;simpa [Cj] using E.pl y o
def ajT(h:(ia ps k v).1=cd):ia ps k v=v\/∃q∈ps,ia ps k v∈q.row:=by unfold ia at*;rcases a:kQ ps v with _|q;exact fc rfl;rw[a] at h;right;refine⟨q,lk a,?_⟩;dsimp only[xb] at h⊢;rcases c:q.row[k]? with _|w;rw[c] at h;simp at h;exact cK c
def St.str(S:St n bs)(W:eB bs b k p t x):St n (xf bs b k p t x):=by
 have N:=cK W.hx;refine⟨S.E.str W,?_,λI A=>?_,λI A=>?_,λI A=>?_⟩
 .have:(xf bs b k p t x).map (λb=>Y b.list)=bs.map λb=>Y b.list:=by refine Bc λi=>?_;rw[gu,gu];unfold xf;rw[bn];cases bs[i]? <;>rfl
  unfold iH;rw[this];exact S.l
 obtain⟨i,y,C,l,rfl⟩:=Ia A;simpa [Cj] using S.p y l;obtain⟨i,y,C,l,rfl⟩:=Ia A;exact S.x y l
 .obtain⟨i,y,C,l,rfl⟩:=Ia A;have⟨E,M,D⟩:=gK.1 (S.r y l);have c:∀z∈bs,∀q∈z.aP,∀v∈q.row,v.1=cd->0<=v.2/\v.2<n:=λz H q o v a e=>by obtain⟨d,d⟩:=v;dsimp only at e;subst e;exact((gK.1 (S.r z H)).1 q o) d (aT _ (a8.2 ⟨_,a,by simp[mh]⟩))
  refine gK.2 ⟨λd G=>?_,M,D⟩;obtain⟨q,o,rfl⟩:=iT.1 G;have d:∀v∈(wL bs b k p t x i q).row,v.1=cd->0<=v.2/\v.2<n:=λv a e=>by unfold wL at a;split at a;dsimp only[jR] at a;rcases jL.1 a with a|a;rcases jL.1 a with a|a;exact c y l q o v (Xp a) e;rw[br] at a;subst a;rcases ajT e with h|⟨O,s,r⟩;unfold ahG at e⊢;rw[h] at e⊢;rcases u:q.row[(aO (aI bs t) b).toNat]? with _|w;rw[u] at e;simp at e;rw[u] at e;exact c y l q o w (cK u) e;exact c x N O s _ r e;exact c y l q o v (pv a) e;split at a;dsimp only[fQ] at a;rcases jL.1 a with a|a;exact c y l q o v (Xp a) e;exact c y l q o v (pv a) e;exact c y l q o v a e
  intro r u;unfold uL at u;rcases jL.1 u with h|h
  .have e:(wL bs b k p t x i q).dst=q.dst:=by unfold wL;split;rfl;split<;>rfl
   rw[e] at h;exact E q o r (ba _ h)
  .have⟨v,a,s⟩:=a8.1 h;unfold mh at s;split at s
   .rename_i e;have:r=v.2:=ak s
    subst this;exact d v a e
   cases s
end
section
variable{n:Nat}{bs:List GB}{b:Nat}{r:GB}{T:Int}
def Kw(i:Nat)(x:GB):(Ez bs b r T i x).list=x.list:=by unfold Ez;dsimp only;split<;>split<;>rfl
def al5(h:I∈zU bs b r T):∃(i:Nat) (y:GB),y∈bs/\I=Ez bs b r T i y:=by have⟨i,c⟩:=iF h;have⟨y,g,a⟩:=yP c;exact⟨i,y,cK g,a⟩
def abo:(zU bs b r T).map (λb=>Y b.list)=bs.map λb=>Y b.list:=by refine Bc λi=>?_;rw[gu,gu];rcases h:bs[i]? with _|y;rw[xE (by rw[Cu];exact ri.1 h)];rw[WX h,zz,zz,Kw]
def St.cut(S:St n bs)(G:bs[b]?=Z r)(g:T∈r.to):St n (zU bs b r T):=by refine⟨S.E.cut G g,by unfold iH;rw[abo];exact S.l,λI o=>?_,λI o=>?_,λI o=>?_⟩<;>obtain⟨i,y,a,rfl⟩:=al5 o;rw[FT];split;simpa [NK] using S.p y a;exact S.p y a;rw[Kw];exact S.x y a;have⟨s,A,C⟩:=gK.1 (S.r y a);refine gK.2 ⟨λH l=>?_,by rw[Kw];exact A,?_⟩;rw[FT] at l;split at l;obtain⟨q,D,rfl⟩:=iT.1 l;intro v c;refine s q D v ?_;unfold uL at c⊢;rcases jL.1 c with h|h;exact ba _ h;have⟨w,u,E⟩:=a8.1 h;refine aT _ (a8.2 ⟨w,?_,E⟩);rcases jL.1 u with h|h;exact Xp h;exact pv h;exact s H l;unfold Ez;dsimp only;split;intro v c;simp[mh] at c;split<;>exact C
def St.jmp(S:St n bs)(b:Nat):St n (B9 bs b):=by unfold B9;split;rename_i r a;split;rename_i h;have⟨t,u,c,l⟩:=JG S.E a h.1;refine S.cut a ?_;rw[c];split<;>simp;exact S;exact S
def St.EP(S:St n bs):∀k,St n (yk bs k)
 |0=>S
 |k+1=>(S.EP k).jmp k
def St.steps{a:List GB}(s:Steps bs a)(S:St n bs):St n a:=by
 induction s with
 |refl=>exact S
 |step _ c l=>exact l.step c
def Jw(L:List Int)(v:Bool×Int):mh (bq L v)=(mh v).map (aO L):=by unfold mh bq;split<;>simp[*]
def Cx(L:List Int):∀M:List (Bool×Int),qk (M.map (bq L))=(qk M).map (aO L)
 |[]=>rfl
 |v::M=>by have:=Cx L M;unfold qk at*;rw[zZ,ei,ei,aW,Jw,this]
def VK(L:List Int)(x:GI):fO (qe L x)=(fO x).map (bq L):=by unfold fO qe;dsimp only;split;rfl;split;rfl;split;rfl;split<;>rfl
def ahP(L:List Int)(x:GI):eD (qe L x)=(eD x).map (bq L):=by unfold eD qe;dsimp only;rw[aW,aW];congr 1;split<;>rfl;congr 1;split<;>rfl
def ac8(L:List Int)(k:Int):aI (bs.map (zn L)) k=aI bs k:=by refine As (fF _ _) (fF _ _) λa=>?_;rw[cu,cu];constructor;rintro⟨i,rfl,o,g,c⟩;rw[gu] at g;obtain⟨x,l,rfl⟩:=cQ.1 g;exact⟨i,Q,x,l,c⟩;rintro⟨i,rfl,x,g,c⟩;exact⟨i,Q,zn L x,by rw[gu,g];rfl,c⟩
def HX(h:I∈bs.map (zn L)):∃y∈bs,I=zn L y:=by have⟨y,g,a⟩:=iT.1 h;exact⟨y,g,a.symm⟩
def EB.ren(E:EB bs)(L:List Int):EB (bs.map (zn L)):=by refine⟨ak E.n1,ak E.n50,λI a=>?_,λI a t o=>?_,λi I a u s=>?_,λI a=>?_⟩;obtain⟨y,c,rfl⟩:=HX a;exact E.kind y c;obtain⟨y,c,rfl⟩:=HX a;rw[yd];exact E.to y c t o;rw[gu] at a;obtain⟨y,c,rfl⟩:=cQ.1 a;obtain⟨q,l,rfl⟩:=iT.1 s;rw[ac8];simpa [Du] using E.rows i y c q l;obtain⟨y,c,rfl⟩:=HX a;simpa [zn] using E.pl y c
def aiV{v:Int}(h:v∈Ix (zn L y)):∃w∈Ix y,v=aO L w:=by
 have M:∀ {u:Bool×Int},v∈mh (bq L u)->∃w∈mh u,v=aO L w:=fun {u} h=>by rw[Jw] at h;obtain⟨w,l,rfl⟩:=iT.1 h;exact⟨w,l,Q⟩
 have o:∀ {us:List (Bool×Int)},v∈qk (us.map (bq L))->∃w∈qk us,v=aO L w:=fun {us} h=>by rw[Cx] at h;obtain⟨w,l,rfl⟩:=iT.1 h;exact⟨w,l,Q⟩
 unfold Ix at h⊢;rcases jL.1 h with h|h
 .have⟨G,C,a⟩:=a8.1 h;obtain⟨q,s,rfl⟩:=iT.1 C;have b:∀w,w∈uL q->w∈y.aP.flatMap uL++(y.list.flatMap Cw++mh y.on):=λw l=>ba _ (a8.2 ⟨q,s,l⟩);unfold uL at a;rcases jL.1 a with a|a
  exact⟨q.dst,b _ (ba _ (br.2 Q)),by simpa [Du] using a⟩;have⟨w,g,c⟩:=o a;exact⟨w,b _ (aT _ g),c⟩
 .rcases jL.1 h with h|h
  .have⟨E,A,a⟩:=a8.1 h;obtain⟨x,D,rfl⟩:=iT.1 A;have b:∀w,w∈Cw x->w∈y.aP.flatMap uL++(y.list.flatMap Cw++mh y.on):=λw l=>aT _ (ba _ (a8.2 ⟨x,D,l⟩));unfold Cw at a;rcases jL.1 a with a|a
   have⟨w,g,c⟩:=M a;exact⟨w,b _ (ba _ g),c⟩;rcases jL.1 a with a|a;have⟨w,g,c⟩:=M a;exact⟨w,b _ (aT _ (ba _ g)),c⟩;rcases jL.1 a with a|a;have⟨w,g,c⟩:=o a;exact⟨w,b _ (aT _ (aT _ (ba _ g))),c⟩;by_cases e:0<=x.dst;refine⟨x.dst,b _ (aT _ (aT _ (aT _ (av e)))),?_⟩;simp only[qe,bH e] at a;split at a;simpa using a;cases a;simp only[qe,bM e] at a;cases a
  have⟨w,g,c⟩:=M h;exact⟨w,aT _ (aT _ g),c⟩
def St.ren{p:Nat}(S:St n bs)(C:p<=n):St (Y (pX p bs)) (bs.map (zn (pX p bs)))/\p<=Y (pX p bs)/\Y (pX p bs)<=n:=by
 have⟨L,l⟩:∃L,L=pX p bs:=⟨_,Q⟩;have d:∀b∈bs,∀v∈Ix b,v∈L:=λb s v o=>by rw[l];exact tc _ _ (a8.2 ⟨b,s,o⟩)
 have e:=Ai (UU C) (pV (f:=QD) (xs:=bs) λb s=>Xg (S.r b s));have E:=Ai e.1 (pV (f:=Ix) (xs:=bs) S.r);have u:p<=Y L:=by
  have g:=((kV (bs.flatMap QD) (j9 p)).trans (kV (bs.flatMap Ix) _)).length_le;rw[l];unfold pX;have:Y (j9 p)=p:=by simp[j9]
  omega
 rw[<-l];refine⟨⟨S.E.ren L,?_,λI a=>?_,λI a N H=>?_,λI a v o=>?_⟩,u,by rw[l];exact E.2⟩
 .have:iH (bs.map (zn L))=iH bs:=by unfold iH;rw[List.map_map];congr 1;exact bf λy _=>by simp[zn]
  rw[this];exact S.l
 obtain⟨y,c,rfl⟩:=HX a;simpa [zn] using S.p y c;obtain⟨y,c,rfl⟩:=HX a;obtain⟨x,M,rfl⟩:=iT.1 H;have⟨g,G,A⟩:=S.x y c x M;refine⟨?_,by simpa [qe] using G,by rw[ahP,VK,Cx,Cx,A]⟩;unfold W3 at g⊢;rw[VK,Cx,g];unfold qe;dsimp only;rw[Jw,Jw,Cx,aW,aW];obtain⟨y,c,rfl⟩:=HX a;obtain⟨w,D,rfl⟩:=aiV o;have⟨k,g,_,A⟩:=j_ (d y c w D);omega
def St.names(S:St n bs)(a:p<=n):St (tM p bs).1 (tM p bs).2/\p<=(tM p bs).1/\(tM p bs).1<=n:=(S.kept S.E.Gu).ren a
def xh.st(T:xh p bs res)(S:St n bs)(a:p<=n):St res.1 res.2/\p<=res.1/\res.1<=n:=by obtain⟨l,c,_,_,rfl⟩:=T;exact(St.steps c (S.kept S.E.Gu)).names a
def CU.names{p:Nat}{a:List GB}(s:CU (bu bs (dU bs)) a)(S:St n bs)(l:p<=n):St (iQ p a).1 (iQ p a).2/\p<=(iQ p a).1/\(iQ p a).1<=n:=by have c:=s.st (S.kept S.E.Gu);have o:=c.kept c.E.Gu;have F:BsF (bu a (dU a)):=λb u x A=>(o.x b u x A).1;have:=c.names l;unfold iQ;rw[aaH F];exact this
inductive Om(T:Nat->List GB->Nat×List GB->Prop)(p:Nat):Nat->List GB->Nat×List GB->Prop
 |done {m:Nat} {bs:List GB} {res:Nat×List GB} (t:T p (yk bs (Y bs)) res) (h:m=0\/Z6 res.2):Om T p m bs res
 |step {m:Nat} {bs:List GB} {r1 res:Nat×List GB} {b k q t:Nat} {x:GB} (h:T p (yk bs (Y bs)) r1) (w:SJ r1.2 b k q t x) (s:Om T p m (xf r1.2 b k q t x) res):Om T p (m+1) bs res
def He(p:Nat)(bs:List GB)(res:Nat×List GB):Prop:=∃a,CU (bu bs (dU bs)) a/\(∀x,wP a x)/\res=iQ p a
def He.st(T:He p bs res)(S:St n bs)(a:p<=n):St res.1 res.2/\p<=res.1/\res.1<=n:=by obtain⟨c,s,_,rfl⟩:=T;exact s.names S a
def JT{c a:Nat×List GB}(S:St n bs)(T:xh p bs c)(U:He p bs a):c=a:=by obtain⟨l,s,no,rfl⟩:=U;exact(adH S T s no).symm
def Om.same{res c:Nat×List GB}(u:Om xh p m bs res)(v:Om He p m bs c)(S:St n bs)(o:p<=n):res=c:=by
 induction u generalizing n with
 |done t h=>
  cases v with
  |done a l=>exact JT (S.EP _) t a
  |step a w s=>
   have:=JT (S.EP _) t a;subst this;rcases h with h|h;cases h;exact absurd w.1 (h _ _ _ _ _)
 |step t w s D=>
  cases v with
  |done a l=>
   have:=JT (S.EP _) t a;subst this;rcases l with h|h;cases h;exact absurd w.1 (h _ _ _ _ _)
  |step a C A=>
   have:=JT (S.EP _) t a;subst this;obtain⟨rfl,rfl,rfl,rfl,rfl⟩:=w.eq C;have⟨E,g,_⟩:=t.st (S.EP _) o;exact D A (E.str w.1) g
end
def cE(r:Int)(M:List (Bool×Int)):Nat:=Y ((qk M).filter λe=>decide (e=r))
def aiW(a b:List (Bool×Int)):qk (a++b)=qk a++qk b:=List.flatMap_append
def mN(r:Int)(a b:List (Bool×Int)):cE r (a++b)=cE r a+cE r b:=by unfold cE;rw[aiW,e6,IA]
def Qb(r:Int)(v:Bool×Int):cE r [v]=if v=(cd,r) then 1 else 0:=by have⟨t,m⟩:=v;unfold cE qk mh;cases t;simp;by_cases e:m=r<;>simp[e]
def aq4{r:Int} :cE r M=0↔(cd,r)∉M:=by
 unfold cE;rw[List.length_eq_zero_iff,ns,<-QE];constructor;intro h l;simpa using h r l
 .intro h a c e;have:a=r:=ak e
  exact h (this▸c)
def Z9{b:Type}{f g:b->List (Bool×Int)}{r:Int} :∀ {xs:List b},(∀x∈xs,qk (f x)=qk (g x))->cE r (xs.flatMap f)=cE r (xs.flatMap g)
 |[],_=>rfl
 |x::xs,h=>by rw[ei,ei,mN,mN,Z9 λy a=>h y (vU _ a)];unfold cE;rw[h x iz]
def mK(pk:List Int)(b:Int)(ps:List GP):List (Bool×Int):=if aO pk b<0 then [] else ps.map λq=>(q.row[(aO pk b).toNat]?).getD (b9,0)
def agM{b:Int}(d:pk.Nodup)(l:Y row=Y pk)(c:pk[k]?=Z b):zf pk row b=fQ row k:=by
 have s:=(cR.mp c).1;have o:Y (pk.filter λa=>decide (a≠b))=Y pk-1:=by
  have:(pk.filter λa=>decide (a≠b))=pk.erase b:=by rw[d.erase_eq_filter];congr 1;funext a;by_cases e:a=b<;>simp[e]
  rw[this,rA (cK c)]
 unfold zf;rw[<-FV d l c];exact sc (by rw[o,j6 J];omega)
def agL{b:Int}(o:Y row=Y pk)(l:b∉pk):zf pk row b=row:=by unfold zf;have a:∀x∈pk.zip row,decide (x.1≠b)=cd:=λx c=>decide_eq_true λe=>l (by rw[<-e];exact(b8 (a:=x.1) (b:=x.2) c).1);rw[fA.2 a];exact sc J
def ado{b r:Int}(d:pk.Nodup)(l:Y row=Y pk):cE r row=cE r (zf pk row b)+(if aO pk b<0 then 0 else cE r [(row[(aO pk b).toNat]?).getD (b9,0)]):=by
 by_cases c:b∈pk
 .have⟨k,g,o,u⟩:=j_ c;have⟨v,a⟩:=aR row k;have s:row=row.take k++([v]++row.drop (k+1)):=by
   conv=>lhs;rw[<-ki k row,fj (by omega:k<Y row)]
   have:row[k]'J=v:=by rw[iK J] at a;simpa using a
   rw[this];rfl
  rw[agM d l o,g,bM J,Xn,a,da]
  conv=>lhs;rw[s]
  unfold fQ;rw[mN,mN,mN];omega
 rw[agL l c,pG c,bH J];rfl
def Mi{pk:List Int}{b r:Int}(d:pk.Nodup):∀ {ps:List GP},(∀q∈ps,Y q.row=Y pk)->cE r (ps.flatMap (·.row))=cE r (uV pk ps b)+cE r (mK pk b ps)
 |[],_=>by unfold mK uV;split<;>rfl
 |q::ps,h=>by
  have o:=Mi (b:=b) (r:=r) d (ps:=ps) λq l=>h q (vU _ l);have g:=ado (b:=b) (r:=r) d (h q iz);have a:cE r (mK pk b (q::ps))=(if aO pk b<0 then 0 else cE r [(q.row[(aO pk b).toNat]?).getD (b9,0)])+cE r (mK pk b ps):=by unfold mK;split;rfl;rw[zZ,<-Dn,mN]
  have c:uV pk (q::ps) b=zf pk q.row b++uV pk ps b:=by unfold uV;rw[ei]
  rw[ei,mN,a,c,mN];omega
def Og(x:GB):List (Bool×Int):=[x.on]++x.list.flatMap fO++x.aP.flatMap (·.row)
def qh(bs:List GB)(r:Int):Nat->Nat
 |0=>0
 |n+1=>qh bs r n+cE r (((bs[n]?).map Og).getD [])
def qD(bs:List GB)(b r:Int):Nat->Nat
 |0=>0
 |n+1=>qD bs b r n+cE r (((bs[n]?).map λx=>mK (aI bs n) b x.aP).getD [])
def PM{n:Nat}{bs:List GB}(S:St n bs){b:Nat}{x:GB}(o:bs[b]?=Z x)(r:Int):∀m,m<=Y bs->qh bs r m=qD bs b r m+cE r (pZ bs b m)+(if b<m then cE r [x.on] else 0)
 |0,_=>rfl
 |m+1,h=>by
  have c:=PM S o r m J;have⟨y,a⟩:=aR bs m;have s:=cK a;have p:=Mi (b:=(b:Int)) (r:=r) (eC bs m) (ps:=y.aP) λq u=>S.E.rows m y a q u;have v:=Z9 (r:=r) (f:=eD) (g:=fO) (xs:=y.list) λz A=>(S.x y s z A).2.2;unfold qh qD pZ;rw[a,zz,zz,zz,da,da,da];unfold Og Dr;rw[mN,mN,mN,mN,mN];by_cases e:m=b
  subst e;rw[o] at a;cases a;rw[bH Q,bH J];rw[bM J] at c;have:cE r []=0:=Q;omega
  rw[bM e];by_cases l:b<m;rw[bH J];rw[bH l] at c;omega;rw[bM J];rw[bM l] at c;omega
def ahM(S:St n bs)(a:bs[b]?=Z x)(r:Int):qh bs r (Y bs)=cE r [x.on]+qD bs b r (Y bs)↔(cd,r)∉pZ bs b (Y bs):=by rw[PM S a r _ (fE _),bH (cR.mp a).1,<-aq4];omega
def af7{d:Int}(j:Y row=Y pk)(s:pk.Pairwise (· < ·))(O:∀a∈pk,0<=a/\a<n)(M:d∉pk)(g:0<=d/\d<n):fZ (pk.zip row++[(d,v)]) n=jR row (uW pk d) v:=by
 have⟨D,E⟩:∃D,D=pk.zip row:=⟨_,Q⟩;have u:D.map (·.1)=pk:=by rw[E];exact List.map_fst_zip J
 have j:D.map (·.2)=row:=by rw[E];exact sc J
 have f:∀x∈D,x.1∈pk:=λx c=>by rw[<-u];exact QP c
 rw[<-E];have o:D.Pairwise (λa b=>a.1<b.1):=by rw[<-u] at s;exact List.pairwise_map.1 s
 have⟨N,I⟩:=Fc d o;have⟨xs,C⟩:∃xs,xs=D.filter (λx=>decide (x.1<d))++(d,v)::D.filter (λx=> !decide (x.1<d)):=⟨_,Q⟩;have P:xs.Perm (D++[(d,v)]):=by rw[C];refine List.perm_middle.trans (List.Perm.trans (List.Perm.cons _ (List.filter_append_perm _ _)) ?_);exact(List.perm_append_comm (l₁:=[(d,v)]))
 have S:xs.Pairwise (λa b=>a.1<b.1):=by
  rw[C,List.pairwise_append];refine⟨o.filter _,List.pairwise_cons.2 ⟨λx c=>?_,o.filter _⟩,λa i b A=>?_⟩;have l:=(EG.1 c).2;have H:x.1≠d:=λe=>M (e▸f x (EG.1 c).1);simp at l;show d<x.1;omega
  have l:=(EG.1 i).2;simp at l;rcases bd.1 A with rfl|A;exact l;have H:=(EG.1 A).2;simp at H;omega
 have G:∀x∈D++[(d,v)],0<=x.1/\x.1<n:=λx c=>by rcases jL.1 c with h|h;exact O _ (f x h);cases br.1 h;exact g
 rw[wJ P S (λx c=>(G x c).1) n,fA.2 (λx c=>by have:=G x (P.subset c);simpa using this.2)];have f:Y (D.filter λx=>decide (x.1<d))=uW pk d:=by unfold uW;rw[<-u,List.filter_map,yd];rfl
 rw[C,N,I,f,<-j];unfold jR;simp
section
variable{n:Nat}{bs:List GB}
def St.YL(S:St n bs)(u:y∈bs):(∀q∈y.aP,(0<=q.dst/\q.dst<n)/\∀v∈q.row,Dy n v)/\(∀x∈y.list,x.dst<n/\∀v∈eD x,Dy n v)/\Dy n y.on:=by
 have⟨A,o,C⟩:=gK.1 (S.r y u);refine⟨λq s=>⟨A q s q.dst (ba _ (br.2 Q)),λv a e=>?_⟩,λx l=>⟨?_,λv a e=>?_⟩,λe=>?_⟩;have⟨D,c⟩:=v;dsimp only at e;subst e;exact A q s c (aT _ (QE.2 a));by_cases e:0<=x.dst;exact(o x l x.dst (aT _ (aT _ (aT _ (av e))))).2;omega
 .have⟨D,c⟩:=v;dsimp only at e;subst e;have⟨g,_,E⟩:=S.x y u x l;have h:=QE.2 a;rw[E,g] at h;refine o x l c ?_;unfold Cw;rcases jL.1 h with h|h
  exact ba _ h;rcases jL.1 h with h|h;exact aT _ (ba _ h);exact aT _ (aT _ (ba _ h))
 exact C y.on.2 (by unfold mh;rw[bH e];simp)
def St.taken(S:St n bs):PY n bs:=by have s:=S.E.n50;refine⟨J,λb a=>⟨aw (S.p b a),λq l=>?_⟩,λb a=>⟨aw (S.ll a),λx o=>?_⟩,λb a=>(S.YL a).2.2⟩;have⟨g,c⟩:=(S.YL a).1 q l;exact⟨g,aw ((S.Jg b a).lr q l),c⟩;have⟨g,c⟩:=(S.YL a).2.1 x o;exact⟨g,aw ((S.x b a x o).2.1),c⟩
def aaL(S:St n bs)(b:Nat):∀m,∀v∈pZ bs b m,Dy n v
 |0,_,h=>by cases h
 |m+1,v,h=>by
  unfold pZ at h;rcases jL.1 h with h|h;exact aaL S b m v h
  .rcases c:bs[m]? with _|y;rw[c] at h;cases h
   .rw[c] at h;have o:=cK c;have⟨l,s,A⟩:=S.YL o;simp only[zz,da,Dr] at h;rcases jL.1 h with h|h
    rcases jL.1 h with h|h;have⟨q,u,h⟩:=a8.1 h;unfold zf at h;obtain⟨e,C,rfl⟩:=iT.1 h;exact(l q u).2 _ (b8 (a:=e.1) (b:=e.2) (EG.1 C).1).2;have⟨x,D,h⟩:=a8.1 h;exact(s x D).2 v h;split at h;cases h;cases br.1 h;exact A
def Pn(S:St n bs){d:Int}(l:0<=d/\d<n):((fu (an n b9) (pZ bs b m))[d.toNat]?).getD b9=cd↔(cd,d)∈pZ bs b m:=by
 have h:=PH (vs:=pZ bs b m) (out:=an n b9) (r:=d.toNat) λv a=>by rw[th];exact aaL S b m v a
 have e:((d.toNat:Nat):Int)=d:=J
 rw[e] at h;have c:d.toNat<Y (fu (an n b9) (pZ bs b m)):=by rw[gL,th];omega
 rw[iK c] at h⊢;have N:¬(an n b9)[d.toNat]?=Z cd:=by rw[TV];split<;>simp
 constructor
 .intro k;have k:(fu (an n b9) (pZ bs b m))[d.toNat]=cd:=ak k
  exact(h.1 (by rw[k])).resolve_left N
 intro k;have:=h.2 (ft k);simpa using this
end
def LC:∀bs:List GB,iH bs<=dw bs
 |[]=>fE _
 |b::bs=>by have:=LC bs;simp only[iH,dw,zZ,List.sum_cons] at this⊢;omega
def gU.st(F:gU f):St f.aF.toNat f.blocks:=by have o:=F.head.many;refine⟨F.eb,?_,λb a=>?_,λb a x l=>?_,F.aoG.r⟩;have:=LC f.blocks;omega;have:=jz a;omega;have⟨i,c⟩:=iF a;have h:=(F.body.Ke i b c).list x l;exact⟨h.inF,aw ((u3 h).2),h.inV⟩
def PV(P:mC):mC:=λf res=>(∀r,P f r->r=res)/\(∀b∈res.2,Hb b)/\Y res.2<50/\dw res.2<1000000
def LG{k:Nat} :∀ {bs:List GB},(∀b∈bs,Y b.aP+Y b.list<=k)->dw bs<=Y bs*k
 |[],_=>by simp[dw]
 |b::bs,h=>by have g:=h b iz;have a:=LG (bs:=bs) λx c=>h x (vU _ c);simp only[dw,List.length_cons,qB,Nat.one_mul] at a⊢;omega
def St.in3{d:List GB}(S:St n d):(∀b∈d,Hb b)/\Y d<50/\dw d<1000000:=by
 have c:=S.E.n50;refine⟨S.Jg,c,?_⟩;have:=LG (k:=600) (bs:=d) λb a=>by have g:=S.p b a;have l:=S.ll a;omega
 have:Y d*600<=50*600:=Gd _ J;omega
def J1:mC:=λf res=>Om xh f.params.toNat 100 f.blocks res
section
variable{T:Nat->List GB->Nat×List GB->Prop}{p m n:Nat}{bs:List GB}{res:Nat×List GB}
def Om.st(c:∀ {n:Nat} {bs:List GB} {res:Nat×List GB},T p bs res->St n bs->p<=n->St res.1 res.2/\p<=res.1/\res.1<=n)(u:Om T p m bs res)(S:St n bs)(a:p<=n):St res.1 res.2/\p<=res.1/\res.1<=n:=by
 induction u generalizing n with
 |done t _=>exact c t (S.EP _) a
 |step t w _ o=>
  have⟨s,g,C⟩:=c t (S.EP _) a;have⟨l,A,D⟩:=o (s.str w.1) g;exact⟨l,A,J⟩
end
def gU.ref(F:gU f)(a:f.params.toNat<=f.aF.toNat)(v:Om He f.params.toNat 100 f.blocks res):PV J1 f res:=
 ⟨λr u=>u.same v F.st a,(v.st He.st F.st a).1.in3⟩
def TK{q:GP×SV}(a:qs[j]?=Z q)(g:decide (v=(cd,q.1.dst))=cd)(l:∀z∈qs.take j,decide (v=(cd,z.1.dst))=b9):kQ (qs.map (·.1)) v=Z q.1:=by
 have c:=(cR.mp a).1;unfold kQ
 conv=>lhs;rw[<-ki j qs,fj c]
 have e:qs[j]'c=q:=by rw[iK c] at a;simpa using a
 rw[e,aW,zZ,Ng];have n:((qs.take j).map (·.1)).find? (λq=>decide (v=(cd,q.dst)))=K:=oc.2 λz s=>by obtain⟨y,o,rfl⟩:=iT.1 s;simpa using l y o
 rw[n,CD (ak g)];rfl
def TJ(h:∀z∈qs,decide (v=(cd,z.1.dst))=b9):kQ (qs.map (·.1)) v=K:=by unfold kQ;exact oc.2 λz c=>by obtain⟨y,a,rfl⟩:=iT.1 c;simpa using h y a
def Yo(i:cy h){y:YB}(d:BZ h y)(hk:(y.kind=1/\y.to=[])\/(y.kind=2/\∃t,y.to=[t])\/(y.kind=3/\∃t u,y.to=[t,u]/\t≠u))(hr:∀q∈y.ps,k<Y q.1.row)(om:Y y.ps<1000000):aY FF 160 [eU ⟨eH.enc y⟩,dC ef k] h (λv V=>v=dC ef (iq y.g k)/\az aV h V):=by
 have V:=d.T.len;have fe:=d.P.len;refine aY.of Ko ?_;unfold Bw;have N:¬h.ax=h.ax+1:=J
 simp[N];refine aN.cut (λg=>az aV h g/\(c_ g h.ax [y.P.v,y.L.v,dC ef y.kind,dd y.on.1,dC ef y.on.2,y.T.v])/\c_ g (h.ax+1) [dC ef y.kind,dd y.on.1,dC ef y.on.2,y.T.v]) ?_ ?_;exact⟨(((az.refl i).new _ _).var _ _),⟨0,av N⟩,⟨h.clock,by simp[bg]⟩⟩;rintro g⟨f,⟨s1,W⟩,⟨s2,B⟩⟩;have S:=f.ok;have Y1:=d.cr i f;have r:=W;have a:=B;simp at r a;have OT:=Y1.T.sl;rcases hk with⟨e,l⟩|⟨e,t,l⟩|⟨e,t,u,l,hn⟩
 .have b:iq y.g k= -1:=by have:y.g.kind=1:=e;unfold iq;rw[bM J,bM J]
  rw[b];simp[a,e,aD a,-ay];exact f
 .have b:iq y.g k=t:=by have:y.g.kind=2:=e;have n:y.g.to=[t]:=l;unfold iq;rw[bH this,n];rfl
  rw[b];have⟨bT,Rm,abj,s,_,_,F⟩:=OT.read (i:=0) (x:=t) (by rw[l];rfl);have A:=F 0 1 ai;simp[-ay] at A s;rw[s.1,V,l] at a;simp[a,e,A,aD a,-ay];exact f
 .have k3:y.g.kind=3:=e;have n:y.g.to=[t,u]:=l;simp[r,a,e,aD a,aD r,-ay];have T':JZ iE (λq=>decide (y.on=(cd,q.1.dst))) (.func (.func 215) #[] #[dB (Z ⟨h.ax+1,0,K⟩)]) y.P y.ps g:=λq I n g2=>
   dQ.func (ak (Yp g2.ok (g2.get S B λT=>aw (d.P.bU i T)) q))
  refine bm.call (V:=air (λq:GP×SV=>decide (y.on=(cd,q.1.dst))) y.ps g) (ak (HI (E:=iE) WR S Y1.P J T')) ?_;rintro _ h3⟨U,T⟩;have D:=f.trans U;have o:=U.get S W;have c:=U.get S B;have E:=d.cr i D;simp at o c;rcases T with⟨rfl,x⟩|⟨j,q,rfl,I,hp,x⟩
  .have b:iq y.g k= -1:=by unfold iq;rw[bM J,bH k3];show(kQ (y.ps.map (·.1)) y.on).elim _ _=_;rw[TJ x];rfl
   rw[b];simp;exact D
  .have X:=cK I;have w:=(cR.mp I).1;have M:=hr q X;have⟨⟨vr,L⟩,hv⟩:=aR q.1.row k M;have b:iq y.g k=if vr=cd then-1 else if L=0 then u else t:=by
    unfold iq;rw[bM J,bH k3];show(kQ (y.ps.map (·.1)) y.on).elim _ _=_;rw[TK I hp x,n];simp only[xb,hv,da];split
    rfl;split<;>rfl
   rw[b];have⟨bP,Jv,oP,sP,gy,sJ,XP,yV,pc,yX⟩:=E.P.el I;have G:=pc 1 1 ai;have R:=E.ps q X;have hRl:=R.len;have⟨bR,csR,oR,H,hRa,hRb,hjR,asT,H',att⟩:=R.el hv;have m:=H' 0 1 ai;have p:=H' 1 1 ai;simp[-ay] at G m p;have C:=E.T.sl;have⟨bT,Rm,abj,s,_,_,F⟩:=C.read (i:=0) (x:=t) (by rw[l];rfl);have⟨bT',agO,aeW,O,_,_,Lj⟩:=C.read (i:=1) (x:=u) (by rw[l];rfl);have A:=F 0 1 ai;have ru:=Lj 0 1 ai;simp[-ay] at A ru s O;rw[s.1] at O;simp at O;have⟨⟨e1,e2⟩,e3⟩:=O;subst e1 e2;have afv:y.T.l=2:=by rw[V,l];rfl
   rw[s.1,afv] at c o;rw[gy,fe] at o;rw[hRa,hRl] at G;have P:decide ((j:Int)<0)=b9:=ag
   cases vr
   .by_cases z:L=0;simp[P,o,c,aD o,aD c,w,G,M,m,p,z,ru,-ay];exact D
    .have hz':(L !=0)=cd:=by simp[z]
     simp[P,o,c,aD o,aD c,w,G,M,m,p,z,hz',A,-ay];exact D
   simp[P,o,aD o,w,G,M,m,-ay];exact D
def Uv(h:aB)(x:Int):aY FF 217 [dC ef x] h (λv a=>v=dd b9/\a=h):=by refine aY.of Eb ?_;unfold vm;simp
def Uw(h:aB)(x:Int):aY FF 247 [dC ef x] h (λv a=>v=dd b9/\a=h):=by refine aY.of Ja ?_;unfold Av;simp
def acw(h:aB)(a b:Int):aY FF 216 [dC ef a,dC ef b] h (λv c=>v=dd (decide (a<b))/\c=h):=by refine aY.of Kj ?_;unfold Br;simp;refine bm.call (V:=λv c=>v=dd b9/\c=h) (ak (Uw h a)) ?_;rintro _ c⟨rfl,rfl⟩;simp
def aj7{t:Int}(g:∀(m:Nat)(x:Int),m<i->xs[m]?=Z x->x<t)(o:∀(m:Nat)(x:Int),i<=m->xs[m]?=Z x->t<=x)(s:i<=Y xs):uW xs t=i:=by
 unfold uW;have e:xs=xs.take i++xs.drop i:=(ki i xs).symm;have a:(xs.take i).filter (λa=>decide (a<t))=xs.take i:=fA.2 λx l=>by have⟨m,c⟩:=iF l;rw[F8] at c;split at c;simpa using g m x (by assumption) c;cases c
 have b:(xs.drop i).filter (λa=>decide (a<t))=[]:=ns.2 λx l=>by have⟨m,c⟩:=iF l;rw[gD] at c;have:=o (i+m) x J c;simp;omega
 rw[e,e6,a,b,ye,List.length_take];omega
def BsI(h:aB)(W:SV)(t:Int)(xs:List Int)(m:Nat)(e:Env)(a:aB):Prop:=
 ∃i j:Nat,m=j-i/\i<=j/\j<=Y xs/\bX e 0=W.v/\bz e 1 t/\bz e 6 (Y xs)/\bz e 7 i/\bz e 8 j/\a=h/\(∀(m:Nat)(x:Int),m<i->xs[m]?=Z x->x<t)/\∀(m:Nat)(x:Int),j<=m->xs[m]?=Z x->t<=x
def Qa(S:bj encI h W.v xs)(q:Y xs<1000000)(s:xs.Pairwise (· < ·))(t:Int):aY FF 165 [W.v,dC ef t] h (λv E=>E=h/\∃b:Bool,v=.tuple #[dC ef (uW xs t),dd b]):=by
 have C:W.l=Y xs:=by have⟨a,q,e,_⟩:=S;simp at e;exact e.2.1
 refine aY.of sw ?_;unfold jI;simp[C];refine aN.loop (BsI h W t xs) ?_ (n:=Y xs) ⟨0,Y xs,Q,J,J,av C,ag,ag,ag,ag,Q,λm x h=>J,λm x g c=>by rw[xE g] at c;cases c⟩;rintro m e c⟨i,j,rfl,q,q,l,H,I,G,D,rfl,r,p⟩;unfold jl;by_cases P:i<j
 .have⟨k,U⟩:∃k,k=(i+j)/2:=⟨_,Q⟩;have⟨n,U⟩:∃n,n=i+j:=⟨_,Q⟩;have U:i<=k:=J
  have d:k<j:=J
  have d:k<Y xs:=J
  have z:IntKind.i64.wrap ((i:Int)+(j:Int))=(n:Int):=by rw[bZ _ J J];omega
  have X:IntKind.u64.wrap (n:Int)=n:=wrap_u64 _ J J;have T:nZ .shr .u64 (n:Int) 1=Z (.int .u64 k):=by
   have B:(n:Int).fdiv (2^1)=k:=by rw[Int.fdiv_eq_ediv_of_nonneg _ ai];omega
   show(if(1:Int)<0 then K else Z (aL .u64 ((n:Int).fdiv (2^(min (1:Int).toNat 64)))))=_;rw[bM ai,show min (1:Int).toNat 64=1 by decide,B]
  have B:IntKind.i64.wrap (k:Int)=k:=bZ _ J J;have w:=bZ ((k:Int)+1) J J;have⟨x,u⟩:=aR xs k d;have⟨F,Rp,Ql,o,_,_,f⟩:=S.read u;have A:=f 0 1 ai;simp[-ay] at A o;simp at l;rw[o.1,C] at l;have V:∀(m:Nat)(y:Int),m<=k->xs[m]?=Z y->y<=x:=λm y g c=>by
   rcases Bb m k with h|h;have M:=(cR.mp c);have N:=(cR.mp u);have:=gY.1 s m k M.1 N.1 h;rw[M.2,N.2] at this;omega
   .have:m=k:=J
    subst this;rw[u] at c;cases c;omega
  have L:∀(m:Nat)(y:Int),k<=m->xs[m]?=Z y->x<=y:=λm y g c=>by
   rcases Bb k m with h|h;have M:=(cR.mp c);have N:=(cR.mp u);have:=gY.1 s k m N.1 M.1 h;rw[M.2,N.2] at this;omega
   .have:m=k:=J
    subst this;rw[u] at c;cases c;omega
  simp[l,H,G,D,P,z,X,B,T,A,d,-ay];refine bm.call (V:=λv E=>v=dd (decide (x<t))/\E=c) (ak (acw c x t)) ?_;rintro _ T⟨rfl,rfl⟩;by_cases d:x<t;simp[d,w];refine⟨j-(k+1),J,k+1,j,Q,J,q,by simp[l,o.1,C],av H,av I,ag,av D,Q,λm y g c=>?_,p⟩;have:=V m y J c;omega
  simp[d];refine⟨k-i,J,i,k,Q,U,J,by simp[l,o.1,C],av H,av I,av G,ag,Q,r,λm y g c=>?_⟩;have:=L m y g c;omega
 .have:i=j:=J
  subst this;have L:=aj7 r p q;rw[L];by_cases O:i<Y xs
  .have⟨x,u⟩:=aR xs i O;have⟨F,Rp,Ql,o,_,_,f⟩:=S.read u;have A:=f 0 1 ai;simp[-ay] at A o;simp at l;rw[o.1,C] at l;by_cases d:x=t
   simp[l,H,I,G,D,O,A,d,-ay]
   .have f:(x==t)=b9:=by simp[d]
    simp[l,H,I,G,D,O,A,f,-ay];refine bm.call (V:=λv E=>v=dd b9/\E=c) (ak (Uv c x)) ?_;rintro _ T⟨rfl,rfl⟩;simp
  simp[I,G,D,O]
def NI(c:bj encI h W.v xs)(o:Y xs<1000000)(t:Int):aY FF 161 [W.v,dC ef t] h (λv a=>v=dd (decide (t∈xs))/\a=h):=by
 refine aY.of wS ?_;unfold mE;simp;refine bm.call (V:=λv a=>a=h/\IxQ xs t v) (ak (sQ c o t)) ?_;rintro _ a⟨rfl,⟨k,rfl,l,_⟩|⟨rfl,s⟩⟩;have:=cK l;simp[this];simp[s]
def Kv(o:cy h){A:SV}(w:eo iE h A qs)(u:Y qs<1000000){y:aa}{p:GP×SV->Bool}(H:JZ iE p y A qs h):aY FF 158 [A.v,y] h (λv c=>v=dd (qs.any p)/\az aV h c):=by
 refine aY.of mn ?_;unfold gJ;simp;refine bm.call (V:=air p qs h) (ak (HI WR o w J H)) ?_;rintro _ c⟨g,⟨rfl,s⟩|⟨j,x,rfl,a,l,_⟩⟩
 .have:qs.any p=b9:=by rw[NS];intro x a;simp[s x a]
  simp[this,g]
 have:qs.any p=cd:=QZ.2 ⟨x,cK a,l⟩;simp[this,g]
def Xj(a:cy h){U s sU D aF:Nat}{b:List Bool}(c:dR h U [c6 (Z ⟨s,0,K⟩) aF aF] sU)(l:dR h s (tG.flat b) D)(H:Y b=aF){q:GP×SV}(u:0<=q.1.dst/\q.1.dst<aF):aY FF 159 [eU ⟨iE.enc q⟩,dB (Z ⟨U,0,K⟩)] h (λv A=>v=dd ((b[q.1.dst.toNat]?).getD b9)/\az aV h A):=by
 have⟨⟨d,row⟩,F⟩:=q;dsimp only at u⊢;obtain⟨n,rfl⟩:∃n:Nat,d=n:=⟨d.toNat,J⟩;have G:n<aF:=J
 have⟨x,o⟩:=aR b n;have r:=ag8 l o;have E:=a.bU c;have C:=a.bU l;refine aY.of Hk ?_;unfold yK;simp[c,aD c,G,r,E,C,bh,dO,o,-ay];exact(az.refl a).new _ _
def aiq:List Nat:=[9,10,11]++(aA 34).map (· +41)
def awS(A:aB)(bs:List GB)(b:Nat)(pk:List Int)(e:Env)(m:Nat)(a:Env)(c:aB):Prop:=
 ∃j:Nat,m=Y pk-j/\j<=Y pk/\aH aiq e a/\bz a 41 j/\az aV A c/\∀k p t x,k<j->¬eB bs b k p t x
def TM(i:cy A)(W:FZ A n0 B z)(E:EB (z.map YB.g))(w1:jm encI N A d G (Edge.dm (cx (z.map YB.g)))){y:YB}(hy:z[b]?=Z y)(b0:b≠0)(em:y.g.list=[])(no:∀q∈y.g.aP,(cd,q.dst)∉pZ (z.map YB.g) b (Y (z.map YB.g)))(hX:dR A X (eH.enc y) D)(hR:dR A R [dC ef 0,dC ef 0,dC ef 0] H){U:SV}(Gi:G[b]?=Z U)(f1:bX e 1=c6 (Z ⟨d,0,K⟩) (Y z) (Y z))(f4:cg e 4 R)(f6:bz e 6 b)(f7:cg e 7 X)(f39:bX e 39=U.v)(f40:bX e 40=dC ef (aI (z.map YB.g) b).length)(f41:bz e 41 0)(C1:∀f u k p t,cg f 4 R->bX f 5=dd cd->az (· =R) A u->(c_ u R [dC ef (p:Nat),dC ef b,dC ef (t:Nat)])->eB (z.map YB.g) b k p t y.g->(∀k' l o s,k'<k->¬eB (z.map YB.g) b k' l o s)->C .ret f u)(C2:∀f u,aH aiq e f->az aV A u->(∀k p t x,¬eB (z.map YB.g) b k p t x)->C (.exit 2) f u):aN FF (.loop rq) e A C:=by
 have mj:=(cR.mp hy).1;have yf:=E.n50;rw[yd] at yf;have yg:(z.map YB.g)[b]?=Z y.g:=by rw[gu,hy];rfl
 have A':=cK yg;have Bg:=E.ahead (k:=b) (by rw[yd];exact mj);have⟨pk,P⟩:∃pk,pk=aI (z.map YB.g) b:=⟨_,Q⟩;have C':=E.rows b y.g yg;have om:Y pk<=50:=by have:=h_ (z.map YB.g) b;rw[<-P,yd] at this;omega
 rw[<-P] at Bg f40 C';have jH:Y y.ps<1000000:=by have:=E.pl y.g A';simp[YB.g] at this;omega
 refine aN.loop (awS A (z.map YB.g) b pk e) ?_ (n:=Y pk) ⟨0,Q,J,aH.refl _ _,f41,.refl i,λk p t x h=>J⟩;rintro m f u⟨j,rfl,hj,Kp,c,r,Hy⟩;have bC:=r.ok;have q1:=Kp.at (t:=1) f1;have q4:=Kp.at (t:=4) f4;have T:=Kp.at (t:=6) f6;have q7:=Kp.at (t:=7) f7;have Q1:=Kp.at (t:=39) f39;have U0:=Kp.at (t:=40) f40;unfold rq;by_cases L:j<Y pk
 .have wj:=bZ ((j:Int)+1) J J;have⟨p,hp⟩:=aR pk j L;have hpb:=qO (bs:=z.map YB.g) (b:=b) (a:=p) (by rw[<-P];exact cK hp);obtain⟨p,rfl⟩:∃n:Nat,p=n:=⟨p.toNat,J⟩;have w':=w1.grow i r (λb hb h=>h);have⟨sd,hd⟩:=w'.ch;have hWs:bj encI u U.v pk:=(w'.acc b U pk Gi Bg).sl;have⟨bK,offK,capK,hKv,_,_,cV⟩:=hWs.read hp;have rp:=cV 0 1 ai;simp[-ay] at rp hKv;have vV:U.l=Y pk:=by have⟨a,F,e,_⟩:=id hWs;simp at e;exact e.2.1
  simp at Q1;rw[hKv.1,vV] at Q1;have cN:=r.get i hX;have JA:=r.get i hR;simp at cN;have W':=W.cr i r;have Y':=W'.at hy;have next:(∀p t x,¬eB (z.map YB.g) b j p t x)->∀k p t x,k<j+1->¬eB (z.map YB.g) b k p t x:=λhn k p t x hk=>by
   rcases Bb k j with h|h;exact Hy k p t x h
   .have:k=j:=J
    subst this;exact hn p t x
  have only:∀ {l o:Nat} {s:GB},eB (z.map YB.g) b j l o s->l=p/\s=y.g:=λw=>by have g:=w.hp;rw[<-P,hp] at g;have M:=w.hx;rw[yg] at M;exact⟨aw (bI g),(bI M).symm⟩
  have hjr:∀q∈y.ps,j<Y q.1.row:=λq hq=>aw (C' q.1 (iT.2 ⟨q,hq,Q⟩))
  have LD:=Yo bC Y' (E.kind y.g A') hjr jH;simp at LD;simp[T,q7,Q1,U0,c,L,rp,cN,aD cN,-ay];refine bm.call (V:=λv M=>v=dC ef (iq y.g j)/\az aV u M) (ak LD) ?_;rintro _ M⟨rfl,g2⟩;have O:=r.trans g2;have zC:=g2.ok;have KK:∀ {F:Env},aH aiq f F->aH aiq e F:=λk=>Kp.trans k;by_cases XZ:iq y.g j<0
  .have V:¬0<=iq y.g j:=J
   simp[V,c,wj];refine⟨Y pk-(j+1),J,j+1,Q,L,?_,ag,O,next λl o s w=>?_⟩
   .refine KK ?_
    repeat (refine aH.set ?_)
    exact aH.refl _ _
   obtain⟨rfl,rfl⟩:=only w;have:=w.lt;omega
  .have⟨t,S⟩:∃t:Nat,iq y.g j=t:=⟨(iq y.g j).toNat,J⟩;have mJ:=LB E A' S;have htb:=E.to y.g A' t mJ;rw[yd] at htb;have yE:t<Y z:=J
   have I:∀ {l o:Nat} {s:GB},eB (z.map YB.g) b j l o s->l=p/\o=t:=λw=>by obtain⟨g,rfl⟩:=only w;have:=w.lt;exact⟨g,J⟩
   by_cases H':t=b
   .have F:((t:Int) !=(b:Int))=b9:=by simp[H']
    simp[S,F,T,c,wj];refine⟨Y pk-(j+1),J,j+1,Q,L,?_,ag,O,next λl o s w=>?_⟩
    .refine KK ?_
     repeat (refine aH.set ?_)
     exact aH.refl _ _
    obtain⟨rfl,rfl⟩:=I w;exact w.tb H'
   have F:((t:Int) !=(b:Int))=cd:=by simp;omega
   by_cases J':p=b
   .have e3:((p:Int) !=(b:Int))=b9:=by simp[J']
    simp[S,F,e3,T,c,wj];refine⟨Y pk-(j+1),J,j+1,Q,L,?_,ag,O,next λl o s w=>?_⟩
    .refine KK ?_
     repeat (refine aH.set ?_)
     exact aH.refl _ _
    obtain⟨rfl,rfl⟩:=I w;exact w.pb J'
   have e3:((p:Int) !=(b:Int))=cd:=by simp;omega
   have w2:=w1.grow i O (λb hb h=>h);have⟨sd2,OX⟩:=w2.ch;have hpt:=E.ahead (k:=t) (by rw[yd];exact yE);have⟨wt,hwt⟩:=aR G t (by rw[w2.len,Edge.iV];simp[cx];exact yE);have rt:=tR OX hwt;simp[-ay] at rt;have OT:bj encI M wt.v (aI (z.map YB.g) t):=(w2.acc t wt _ hwt hpt).sl;simp[S,F,e3,q1,T,c,yE,rt,-ay];refine bm.call (V:=λv h3=>v=dd (decide ((p:Int)∈aI (z.map YB.g) t))/\h3=M) (ak (NI OT (by have:=h_ (z.map YB.g) t;rw[yd] at this;omega) (p:Int))) ?_;rintro _ h3⟨rfl,rfl⟩;by_cases V:(p:Int)∈aI (z.map YB.g) t
   .simp[V,c,wj];refine⟨Y pk-(j+1),J,j+1,Q,L,?_,ag,O,next λl o s w=>?_⟩
    .refine KK ?_
     repeat (refine aH.set ?_)
     exact aH.refl _ _
    obtain⟨rfl,rfl⟩:=I w;exact w.pt V
   have uA:=O.get i hR;simp[V,S,q4,T,uA];refine C1 _ _ j p t (av q4) ag ?_ ⟨h3.clock,by simp[bg]⟩ ⟨yg,b0,em,no,S,by rw[<-P];exact hp,H',J',V⟩ λk' l o s hk=>Hy k' l o s hk;exact O.cr.trans (aX zC uA)
 .have:j=Y pk:=J
  subst this;simp[U0,c];refine C2 _ _ (aH.set Kp) r λk p t x w=>?_;have:=(cR.mp w.hp).1;rw[<-P] at this;exact Hy k p t x this w
def aey(bs:List GB)(h:aB)(v:aa)(a:aB):Prop:=
 az aV h a/\((∃(b k p t:Nat) (x:GB),v=.tuple #[eU ⟨[dC ef p,dC ef b,dC ef t]⟩,dd cd]/\SJ bs b k p t x)\/(v=.tuple #[eU ⟨[dC ef 0,dC ef 0,dC ef 0]⟩,dd b9]/\Z6 bs))
def FsE:List Nat:=[6,7,8,9,10,11]++(aA 61).map (· +15)
def FsZ(A:aB)(bs:List GB)(e:Env)(m:Nat)(a:Env)(c:aB):Prop:=
 ∃i:Nat,m=Y bs-i/\i<=Y bs/\aH FsE e a/\bz a 15 i/\az aV A c/\∀b k p t x,b<i->¬eB bs b k p t x
def TN(O:cy A)(hr:aF<1000000)(W:FZ A n0 B z)(S:St aF (z.map YB.g))(w1:jm encI N A d G (Edge.dm (cx (z.map YB.g))))(n:dR A F (aC name p0 aF B) E)(hR:dR A R [dC ef 0,dC ef 0,dC ef 0] H)(L:bX e 1=c6 (Z ⟨d,0,K⟩) (Y z) (Y z))(T:cg e 2 F)(j:cg e 4 R)(f13:bX e 13=B.v)(f:bz e 14 (Y z))(P:bz e 15 0)(C1:∀M o b k p t x,cg M 4 R->bX M 5=dd cd->az (· =R) A o->(c_ o R [dC ef (p:Nat),dC ef (b:Nat),dC ef (t:Nat)])->SJ (z.map YB.g) b k p t x->C .ret M o)(C2:∀M o,aH FsE e M->az aV A o->Z6 (z.map YB.g)->C (.exit 0) M o):aN FF (.loop rz) e A C:=by
 have X:=S.E;have dq:=W.A.len;have r:Y (z.map YB.g)=Y z:=yd ..;have U:=X.n50;rw[r] at U;refine aN.loop (FsZ A (z.map YB.g) e) ?_ (n:=Y (z.map YB.g)) ⟨0,Q,J,aH.refl _ _,P,.refl O,λb k p t x h=>J⟩;rintro m M o⟨i,rfl,hi,Kp,U,P,Hy⟩;have V:=P.ok;have q1:=Kp.at (t:=1) L;have q2:=Kp.at (t:=2) T;have q4:=Kp.at (t:=4) j;have T:=Kp.at (t:=13) f13;have Gy:=Kp.at (t:=14) f;rw[r] at hi;rw[r];unfold rz;by_cases dW:i<Y z
 .have wi:=bZ ((i:Int)+1) J J;have⟨y,hy⟩:=aR z i dW;have yg:(z.map YB.g)[i]?=Z y.g:=by rw[gu,hy];rfl
  have ygm:=cK yg;have j:=W.cr O P;have Y':=j.at hy;obtain⟨f,s,f,u,dY,f,f,f,f,L⟩:=j.A.el hy;have L:=f 0 6 ai;simp[-ay] at L;have kA:=Y'.L.len;have gM:=P.get O n;have n:=P.get O hR;simp at T;rw[dY,dq] at T;have n:=V.bU gM;have next:(∀k p t x,¬eB (z.map YB.g) i k p t x)->∀b k p t x,b<i+1->¬eB (z.map YB.g) b k p t x:=λhn b k p t x hk=>by
   rcases Bb b i with h|h;exact Hy b k p t x h
   .have:b=i:=J
    subst this;exact hn k p t x
  have C':∀(f:Env)(n:aB),aH FsE M f->bz f 15 ((i+1:Nat):Int)->az aV A n->(∀k p t x,¬eB (z.map YB.g) i k p t x)->∃m<Y z-i,FsZ A (z.map YB.g) e m f n:=λf n k1 k2 f hn=>⟨Y (z.map YB.g)-(i+1),by rw[r];omega,i+1,Q,by rw[r];omega,Kp.trans k1,k2,f,next hn⟩;have w1':IntKind.i64.wrap 1=1:=bZ _ J J;simp[T,Gy,U,dW,L,-ay,aJ,cw,bh];refine bm.cut (λn=>az aV o n/\c_ n o.ax [y.P.v,y.L.v,dC ef y.kind,dd y.on.1,dC ef y.on.2,y.T.v]) ?_ ?_
  exact⟨(az.refl V).var _ _,⟨o.clock,by simp[bg]⟩⟩;rintro n⟨f,D,hX⟩;have W2:=j.cr V f;have iL:=P.trans f;have T:=hX;simp at T;by_cases hi0:i=0
  .subst hi0;simp[U,w1'];refine C' _ _ ?_ ag iL λk p t x w=>w.b0 rfl
   repeat (refine aH.set ?_)
   exact aH.refl _ _
  have e0:((i:Int)==0)=b9:=by simp;omega
  by_cases l:¬y.ls=[]
  .have L:0<Y y.ls:=HQ.2 l;simp[e0,T,aD T,kA,L,U,wi,-ay];refine C' _ _ ?_ ag iL λk p t x w=>?_
   .repeat (refine aH.set ?_)
    exact aH.refl _ _
   have g:=w.hx;rw[yg] at g;cases g;exact l (by simpa [YB.g] using w.em)
  have l:y.ls=[]:=Di.1 l;have hL0:y.L.l=0:=by rw[kA,l];rfl
  have e_:=f.get V gM;have L:=e_;simp[aC] at L;have w2:=w1.grow O iL (λb hb h=>h);simp[e0,T,aD T,hL0,q1,q2,L,aD L,-ay];refine bm.call (V:=aqp aF (z.map YB.g) i n) (by simpa [aC,r] using KC f.ok (name:=name) (p:=p0) hr w2 W2.view X S.Jg S.taken) ?_;rintro _ T⟨L,nb,rfl,n,n,hb⟩;have eS:=iL.trans L;have dZ:=L.get f.ok hX;have n:=L.ok.wf _ _ dZ;have nX:¬o.ax=T.ax:=J
  have nX':¬T.ax=o.ax:=J
  have n:=dZ;simp at n;simp[n,nX,nX'];refine bm.cut (λh4=>az aV T h4/\c_ h4 T.ax [c6 (Z ⟨nb,0,K⟩) aF aF]) ⟨(az.refl L.ok).var _ _,⟨T.clock,by simp[bg]⟩⟩ ?_;rintro h4⟨n,sU,hU⟩;have pT:=eS.trans n;have g24:=(f.trans L).trans n;have W4:=j.cr V g24;have Y4:=W4.at hy;have hb4:=n.get L.ok hb;have jH:Y y.ps<1000000:=by have:=X.pl y.g ygm;simp[YB.g] at this;omega
  have hlo:∀c,bD y.P.v c->c<o.ax:=λc hc=>Y'.P.bU V hc;have V:=f.ax;have V:=L.ax;have V:=n.ax;have⟨V,A'⟩:∃V,V=fu (an aF b9) (pZ (z.map YB.g) i (Y (z.map YB.g))):=⟨_,Q⟩;rw[<-A'] at hb4;have AY:Y V=aF:=by rw[A',gL,th]
  have uM:∀q∈y.ps,0<=q.1.dst/\q.1.dst<aF:=λq j=>((S.YL ygm).1 q.1 (iT.2 ⟨q,j,Q⟩)).1;have T':JZ iE (λq=>(V[q.1.dst.toNat]?).getD b9) (.func (.func 159) #[] #[dB (Z ⟨T.ax,0,K⟩)]) y.P y.ps h4:=λq j T I=>
   dQ.func (ak (Xj I.ok (I.get n.ok hU λhc=>aw (hlo _ hc)) (I.get n.ok hb4 λhc=>aw (hlo _ hc)) AY (uM q j)))
  refine bm.call (V:=λv T=>v=dd (y.ps.any λq=>(V[q.1.dst.toNat]?).getD b9)/\az aV h4 T) (ak (Kv n.ok Y4.P jH T')) ?_;rintro _ T⟨rfl,I⟩;have T:=pT.trans I;have ok5:=I.ok;cases abR:y.ps.any λq=>(V[q.1.dst.toNat]?).getD b9 with
  |true=>
   have⟨q,j,V⟩:=QZ.1 abR;rw[A',Pn S (uM q j)] at V;simp[U,wi];refine C' _ _ ?_ ag T λk p t x w=>?_
   .repeat (refine aH.set ?_)
    exact aH.refl _ _
   have g:=w.hx;rw[yg] at g;cases g;exact w.no q.1 (iT.2 ⟨q,j,Q⟩) V
  |false=>
   have aAt:∀q∈y.g.aP,(cd,q.dst)∉pZ (z.map YB.g) i (Y (z.map YB.g)):=λq1 yi V=>by obtain⟨q,j,rfl⟩:=iT.1 yi;have g:=NS.1 abR q j;rw[A'] at g;exact g ((Pn S (uM q j)).2 V)
   have j:=w1.grow O T (λb hb h=>h);have⟨V,hd⟩:=j.ch;have Bg:=X.ahead (k:=i) (by rw[r];exact dW);have⟨wk,V⟩:=aR G i (by rw[j.len,Edge.iV];simp[cx];exact dW);have Ws:=tR hd V;simp[-ay] at Ws;have vV:wk.l=Y (aI (z.map YB.g) i):=by have⟨a,cap,e,_⟩:=(j.acc i wk _ V Bg).sl;simp at e;exact e.2.1
   have nC:=(L.trans (n.trans I)).get f.ok hX;have f:=T.get O hR;simp[q1,dW,Ws,vV,-ay];refine TM (b:=i) ok5 (W4.cr n.ok I) X j hy hi0 (by simp[YB.g,l]) aAt (ak nC) f V (av q1) (av q4) ag ag (av vV) ag ag ?_ ?_
   intro V X k p t L f j n w hk;simp;exact C1 V X i k p t y.g L f (T.cr.trans j) n ⟨w,Hy,hk⟩
   .intro V X V j hn;have X:=V.at (t:=15) (aq U);simp[X,wi];refine C' _ _ ?_ ag (T.trans j) hn
    repeat (refine aH.set ?_)
    refine aH.trans ?_ (V.cX)
    repeat (refine aH.set ?_)
    exact aH.refl _ _
 .have:i=Y z:=J
  subst this;simp[Gy,U];refine C2 _ _ (aH.set Kp) P λb k p t x w=>?_;have:=(cR.mp w.hx).1;rw[r] at this;exact Hy b k p t x this w
def Xi(u:cy h){name:ByteArray}{p:Int}(f:aF<1000000)(W:FZ h n0 B z)(S:St aF (z.map YB.g))(i:jm encI N h d G (Edge.dm (cx (z.map YB.g)))):aY FF 102 [eU ⟨aC name p aF B⟩,c6 (Z ⟨d,0,K⟩) (Y z) (Y z)] h (aey (z.map YB.g) h):=by
 have A:=W.A.len;have D:¬h.ax=h.ax+1:=J
 refine aY.of Kn ?_;unfold Bv;simp[aC,D,A];refine aN.cut (λg=>az aV h g/\(c_ g h.ax (aC name p aF B))/\(c_ g (h.ax+1) [dC ef 0,dC ef 0,dC ef 0])) ⟨((az.refl u).new _ _).new _ _,⟨0,by simp[aC,D,A]⟩,⟨0,ag⟩⟩ ?_;rintro g⟨a,⟨E,j⟩,⟨H,C⟩⟩;have O:=i.grow u a (λb i h=>h);refine TN a.ok f (W.cr u a) S O j C ag ag ag (av A) ag ag ?_ ?_
 intro f i b k p t x I j l ⟨s,o⟩ F;simp[I,j,o];exact⟨a.trans' l aj (λc j e=>J),fc ⟨b,k,p,t,x,Q,F⟩⟩;intro f i Kp l i;have o:=l.get a.ok C;have M:=Kp.at (t:=4) (v:=dB (Z ⟨h.ax+1,0,K⟩)) ag;simp[M,o,bg];exact⟨(a.trans l).trans' (aX l.ok o) aj (λc j e=>J),ft ⟨Q,i⟩⟩
def ahI(l:cy h){V s:Nat}(c:dR h V [dd v.1,dC ef v.2] s)(q:GP×SV):aY FF 164 [eU ⟨iE.enc q⟩,dB (Z ⟨V,0,K⟩)] h (λr o=>r=dd (decide (v=(cd,q.1.dst)))/\az aV h o):=by
 have⟨r,n⟩:=v;have u:=l.bU c;have C:=u.lt;have A:¬h.ax=V:=J
 have a:¬V=h.ax:=J
 refine aY.of AN ?_;unfold qw;simp at c;simp[c,A,a];refine⟨?_,(az.refl l).new _ _⟩;cases r<;>simp[aay,instBEqOfDecidableEq]
def ajU(h:∀z∈qs,decide (v=(cd,z.1.dst))=b9):ia (qs.map (·.1)) k v=v:=by unfold ia;rw[TJ h];rfl
def ajS{q:GP×SV}(l:qs[j]?=Z q)(g:decide (v=(cd,q.1.dst))=cd)(c:∀z∈qs.take j,decide (v=(cd,z.1.dst))=b9)(a:q.1.row[k]?=Z w):ia (qs.map (·.1)) k v=w:=by unfold ia;rw[TK l g c];simp[a]
def agI(l:cy h)(w:eo iE h P qs)(C:∀q∈qs,eo cH h q.2 q.1.row)(f:∀q∈qs,k<Y q.1.row)(d:Y qs<1000000)(d:dR h BY [P.v] u)(i:dR h Kp [dC ef k] sK)(v:Bool×Int):aY FF 163 [eU ⟨[dd v.1,dC ef v.2]⟩,dB (Z ⟨BY,0,K⟩),dB (Z ⟨Kp,0,K⟩)] h (λr b=>r=eU ⟨[dd (ia (qs.map (·.1)) k v).1,dC ef (ia (qs.map (·.1)) k v).2]⟩/\az aV h b):=by
 have r:=l.bU d;have b:=r.lt;have r:=l.bU i;have b:=r.lt;have n:=w.len;have N:¬h.ax=h.ax+1:=J
 have b:¬BY=h.ax:=J
 have r:¬BY=h.ax+1:=J
 refine aY.of CZ ?_;unfold tZ;simp at d;simp[N,b,r,d];refine bm.cut (λg=>az aV h g/\(c_ g h.ax [dd v.1,dC ef v.2])/\c_ g (h.ax+1) [dd b9,dC ef 0]) ⟨((az.refl l).new _ _).new _ _,⟨0,av N⟩,⟨0,ag⟩⟩ ?_;rintro g⟨b,⟨sV,m⟩,⟨H,p⟩⟩;have T:JZ iE (λq=>decide (v=(cd,q.1.dst))) (.func (.func 164) #[] #[dB (Z ⟨h.ax,0,K⟩)]) P qs g:=λq A r a=>
  dQ.func (ak (ahI a.ok (a.get b.ok m λG=>aw (w.bU l G)) q))
 refine bm.call (V:=air (λq:GP×SV=>decide (v=(cd,q.1.dst))) qs g) (ak (HI (E:=iE) WR b.ok (w.cr l b) J T)) ?_;rintro _ r⟨a,G⟩;have s:=b.trans a;have r:=a.get b.ok m;have D:=a.get b.ok p;have I:=s.get l d;have o:=s.get l i;rcases G with⟨rfl,d⟩|⟨j,q,rfl,A,m,d⟩
 rw[ajU d];simp[r,D,bg];exact s.trans' (aX a.ok D) aj (λc G e=>J)
 .have O:=cK A;have⟨x,i⟩:=aR q.1.row k (f q O);rw[ajS A m d i];have m:=(cR.mp A).1;obtain⟨d,d,d,d,b,t,d,d,d,r⟩:=(w.cr l s).el A;have M:=d 1 1 ai;have R:=(C q O).cr l s;have r:=R.len;obtain⟨bR,d,d,H,p,d,T,T,T,y⟩:=R.el i;have i:=T 0 2 ai;simp[-ay] at M i;rw[b,n] at I;rw[p,r] at M;have p:¬(j:Int)<0:=J
  have b:=f q O;have r:=a.ok.bU I;have f:=a.ok.bU o;have S:=a.ok.bU t;have n:=a.ok.bU d;have d:=a.ok.st _ _ _ _ _ D;simp[I,o,m,p,M,b,i,D,bg,d,r,f,S,n,aK,aJ,-ay,aD I,aD o];exact(s.trans (bk a.ok)).trans' (aX (bk a.ok).ok D) aj (λc G e=>J)
def aci(f:cy h){F:SV}(w:eo cH h F row)(j:row≠[]){x G d t xs:Nat}{r:List aa}{y:Bool×Int}(q:h.tr.get x=Z (.ch r b9 t xs))(t:cC h x G 2=Z [dd y.1,dC ef y.2])(r:∀b,fy F=Z b->b≠x)(i:Nat)(N:i<=Y row)(k:Y row<1000000):aY FF 166 [F.v,dC ef i,c6 (Z ⟨x,G,K⟩) 1 d] h (λv D=>∃u:SV,v=u.v/\eo cH D u (jR row i y)/\az (λc=>fy F=Z c) h D/\∀c,fy u=Z c->fy F=Z c\/h.ax<=c):=by
 obtain⟨M,⟨_,_,O⟩|⟨b,o,k,I,C,l,H,k⟩⟩:=w;exact absurd O j;have j:o=0\/o=2:=ak k
 have A:=cj C;have m:=BX (v:=y) N;rcases I with _|⟨z,I⟩
 .rw[ye] at H;simp at l;have U:Nat.ble i F.l=cd:=by simpa [M] using N
  have q2:Nat.blt F.l F.c=b9:=Bool.eq_false_iff.2 λe=>aw (ON (show Nat.ble (F.l+1) F.c=cd from e))
  have T:ar F.l F.c=cd:=by rw[M,l];exact lW _
  have V:(ar o 2||ar o 0)=cd:=by rcases j with rfl|rfl<;>rfl
  have q4:ar (0+F.c*2) (Y (cH.flat row))=cd:=by
   have:0+F.c*2=Y (cH.flat row):=by rw[cH.eN,l];simp
   rw[this];exact lW _
  have W:ar b x=b9:=by cases e:ar b x;rfl;exact absurd (qm e) (r b A)
  have P:Nat.blt F.l 1000000=cd:=by
   have:F.l<1000000:=J
   simpa [Nat.blt_eq] using this
  have e1:Go.AI.aQ (cH.flat row) [dd y.1,dC ef y.2] 0 i F.l 2=cH.flat (jR row i y):=by have B:=cH.ij row i;have L:=cH.mq row i;have p:=cH.ij (row.drop i) (F.l-i);simp only[uK] at B L p;unfold Go.AI.aQ jR;have X:(row.drop i).take (F.l-i)=row.drop i:=nz (by simp;omega);rw[List.drop_zero,B,Je,L,p,X,cH.dX,cH.dX,TQ]
  have p:K8 2 [F.v,dC ef i,c6 (Z ⟨x,G,K⟩) 1 d] h=Z (c6 (Z ⟨h.ax+8,0,K⟩) (F.l+1) (F.l+1),aM {h with ax:=h.ax+8,tr:=h.tr.del b} (Go.AI.aQ (cH.flat row) [dd y.1,dC ef y.2] 0 i F.l 2) 2):=by show K8 2 [c6 F.a F.l F.c,dC ef (.ofNat i),c6 (Z ⟨x,G,K⟩) 1 d] h=_;rw[C];simp only[K8,Wl,XW,H,q,U,q2,T,V,q4,W,P,lW,Bool.and_true,Bool.and_false,Bool.false_and,Bool.not_false,if_true,t];simp
  rw[e1] at p;have E:∀c,(aM {h with ax:=h.ax+8,tr:=h.tr.del b} (cH.flat (jR row i y)) 2).tr.get c=if c=h.ax+8 then Z (.ch (cH.flat (jR row i y)) b9 2 0) else if c=b then K else h.tr.get c:=λc=>by simp only[aM,aB.new,Tr.bS,Tr.iw]
  refine aY.run jk p ⟨⟨Z ⟨h.ax+8,0,K⟩,F.l+1,F.l+1⟩,Q,⟨by rw[m];show F.l+1=_;omega,ft ⟨h.ax+8,2,0,[],Q,by show F.l+1=Y (jR row i y)+0;omega,by rw[E,bH Q,ye],ft Q⟩⟩,?_,λc l=>ft ?_⟩
  .refine⟨by simp only[xN];omega,fE _,λc g p=>?_,⟨λc T a=>?_,λc s T T T a=>?_⟩⟩;rw[E,bM J,bM (λe=>p (by rw[e];exact A))];rw[E] at a;simp only[xN];split at a;omega;split at a;cases a;have:=f.wf _ _ a;omega
   rw[E] at a;split at a;cases a;exact kp _;split at a;cases a;exact f.st _ _ _ _ _ a
  rw[cj rfl] at l;cases l;omega
 obtain⟨n,v,D,T,u,rfl,S,W,U,P,p,V⟩:=O8 f C M (ak l) j H q t (r b A) i N J;exact⟨n,_,D,T,u,Q,⟨by rw[W,m],ft ⟨b,o,p,I,by rw[S,C],by rw[U,l];simp;omega,V,k⟩⟩,P.cX (λc _ e=>by rw[e];exact A),λc l=>fc (by have:=cj (S.trans C);rw[this] at l;rw[<-l];exact A)⟩
def aqM:List Nat:=(aA 24).map (· +69)
def acg(a:cy h)(W:FZ h n0 B z)(sO:n0<=h.ax){F X5 X y i j p E r:Nat}(T:dR h F (aC name p0 rg B) E)(nF:¬cm B z F)(k:dR h X5 [a5,b5,dC ef y] r)(n5:¬cm B z X5){r:YB}(f:z[y]?=Z r){q:GP×SV}(O:r.ps[i]?=Z q)(A:c_ h X [dC ef q.1.dst,q.2.v])(d:¬cm B z X)(d:q.1.row[j]?=Z w)(hp:p<=Y q.1.row)(hql:Y q.1.row<1000000)(n:Y r.ps<1000000){gv:Bool×Int}(now:∀g,az aV h g->dQ FF fv [eU ⟨[dd w.1,dC ef w.2]⟩] g (λv D=>v=eU ⟨[dd gv.1,dC ef gv.2]⟩/\az aV g D))(f0:cg e 0 F)(f5:cg e 5 X5)(n:bX e 8=fv)(f9:bz e 9 j)(f10:bz e 10 p)(f12:bz e 12 i)(V:cg e 13 X)(C':∀U D t,aH aqM e U->cM h D n0 B z B (z.set y {r with ps:=r.ps.set i (⟨q.1.dst,jR q.1.row p gv⟩,t)})->C .normal U D):aN FF ahF e h C:=by
 have⟨U,A⟩:=A;have R:=W.at f;have mj:=(cR.mp f).1;have XO:=(cR.mp O).1;have U:=(cR.mp d).1;obtain⟨bB,s,m,u,dY,wW,m,m,m,P⟩:=W.A.el f;have P:=m 0 1 ai;simp[-ay] at P;have x:=W.A.len;have m:=T;simp[aC] at m;rw[dY,x] at m;have af2:=a.st _ _ _ _ _ T;have Ls:=a.st _ _ _ _ _ wW;have aA1:=a.st _ _ _ _ _ k;have aA2:=a.st _ _ _ _ _ A;have oF:=a.bU T;have o5:=a.bU k;have oX:=a.bU A;have T:=R.ps q (cK O);have Xz:=T.len;have fe:=R.P.len;obtain⟨x,L,L,sV,L,hVb,hjV,aEs,anu,aEO⟩:=T.el d;have d:=anu 0 2 ai;simp[-ay] at d;simp at A;rw[L,Xz] at A;unfold ahF;simp[f0,f5,n,f9,f10,f12,V,m,k,A,mj,P,U,d,-ay,aD m,aD k,aD A,aK,bh,oF,o5,oX];refine ck.cut (λd=>az aV h d/\h.clock<=d.clock) ⟨bk a,hQ _⟩ ?_;rintro d⟨P,JD⟩;refine ck.fB (V:=λv D=>v=eU ⟨[dd gv.1,dC ef gv.2]⟩/\az aV d D) (by simpa [n] using now d P) ?_;rintro _ d⟨rfl,n⟩;have G:=P.trans n;have P:=G.get a A;simp[V,P,aA2];refine ck.cut (λN=>az aV d N/\N.tr.get d.ax=Z (.ch [dd gv.1,dC ef gv.2] b9 0 0)) ⟨aZ n.ok _ _,ag⟩ ?_;rintro N⟨P,We⟩;have n:=G.trans P;have rY:cC N d.ax 0 2=Z [dd gv.1,dC ef gv.2]:=by rw[fm We ag];rfl
 have V:r.loc (.R i)=Z x:=by rw[YB.jM O];exact cj L
 have d:cm B z x:=⟨Z (y,.R i),by rw[cJ f];exact V⟩;have o:=cj L;have ln:=G.ax;have lV:=a.wf _ _ hVb;have eF:q.1.row≠[]:=λe=>by rw[e] at U;simp at U
 refine ck.call (V:=λv D=>∃t:SV,v=t.v/\eo cH D t (jR q.1.row p gv)/\az (λc=>fy q.2=Z c) N D/\∀c,fy t=Z c->fy q.2=Z c\/N.ax<=c) (by simpa [L,Xz] using aci P.ok (T.cr a n) eF We rY (λb t=>by rw[o] at t;cases t;omega) p hp hql) ?_;rintro _ t⟨l,rfl,A5,M,T⟩;have nbF:¬fy q.2=Z F:=λe=>nF (by rw[o] at e;cases e;exact d);have U:¬fy q.2=Z X5:=λe=>n5 (by rw[o] at e;cases e;exact d);have L:¬fy q.2=Z bB:=λe=>by rw[o] at e;have:=W.uO K (Z (y,.R i)) x (by rw[bI e];exact cj dY) (by rw[cJ f];exact V);cases this
 have S:∀c,fy r.P=Z c->¬fy q.2=Z c:=λc d e=>by rw[o] at e;have e:=bI e;rw[<-e] at d;have:=W.Gj f .P (.R i) x d V;cases this
 have H:=P.ok;have NO:=M.get H (n.get a m) nbF;have h55:=M.get H (n.get a k) U;have arN:=M.get H (n.get a wW) L;have V:az (λc=>fy q.2=Z c) h t:=n.cr.trans M;obtain⟨I,k,m,n,n,x,L,U,L,L⟩:=(R.P.go a V (λc d e=>S c e d)).el O;have lP:r.loc .P=Z I:=cj n;have nPb:=S I (cj n);have r:I<h.ax:=R.P.bU a (fK n);have r:=P.ax;have r:=U 1 1 ai;simp at r;have P:az (· =I) t (put t I (i*2+1) k [c6 l.a l.l l.c] m):=aX M.ok x;have U:=L (⟨q.1.dst,jR q.1.row p gv⟩,l) 1 [c6 l.a l.l l.c] ag rfl (put t I (i*2+1) k [c6 l.a l.l l.c] m) ⟨_,bc _ _ _ _ _ _⟩;have L:eo cH (put t I (i*2+1) k [c6 l.a l.l l.c] m) l (jR q.1.row p gv):=A5.go M.ok P λc d e=>by subst d;rcases T c e with h|h;exact nPb h;omega
 simp[NO,h55,arN,af2,aA1,Ls,n,fe,XO,x,r];refine C' _ _ l ?_ ((cM.refl W a).row sO f O (V.trans' P (λc _ e=>fc ⟨.R i,ft Q,by rw[YB.jM O];exact e⟩) (λc _ e=>fc ⟨.P,fc Q,by rw[e];exact lP⟩)) U L (λc d=>(T c d).imp id λh=>J))
 repeat (refine aH.set ?_)
 exact aH.refl _ _
def aqL:List Nat:=(aA 10).map (· +101)
def abu(l:cy h)(W:FZ h n0 B z)(sO:n0<=h.ax){BY Kp X y i k u sK:Nat}{r:YB}(O:z[y]?=Z r){q:GP×SV}(f:r.ps[i]?=Z q)(d:dR h BY [r.P.v] u)(nB:¬cm B z BY)(g:dR h Kp [dC ef k] sK)(j:¬cm B z Kp)(A:c_ h X [dC ef q.1.dst,q.2.v])(j:k<Y q.1.row)(t:Y q.1.row<1000000)(t:Y r.ps<1000000)(f6:cg e 6 Kp)(t:cg e 7 BY)(m:bz e 14 i)(n:cg e 15 X)(U:∀v p V,aH aqL e v->cM h p n0 B z B (z.set y {r with ps:=r.ps.set i (⟨q.1.dst,fQ q.1.row k⟩,V)})->C .normal v p):aN FF ahE e h C:=by
 have⟨p,A⟩:=A;have R:=W.at O;have p:=(cR.mp O).1;have XO:=(cR.mp f).1;have Ls:=l.st _ _ _ _ _ d;have oB:=l.bU d;have T:=l.bU g;have oX:=l.bU A;obtain⟨V,⟨_,_,p⟩|⟨b,o,s,v,D,N,P,x⟩⟩:=R.ps q (cK f)
 rw[p] at j;simp at j;have p:r.loc (.R i)=Z b:=by rw[YB.jM f];exact cj D
 have EY:cm B z b:=⟨Z (y,.R i),by rw[cJ O];exact p⟩;have w:=R.P.len;have L:=bZ ((k:Int)+1) J J;simp at A d;rw[D] at A;rw[w] at d;have F:o=0\/o=2:=ak x
 unfold ahE;simp[f6,t,m,n,d,A,g,L,-ay,aD d,aD A,aD g,aK,bh,oB,T,oX];refine ck.cut (λg=>az aV h g/\h.clock<=g.clock) ⟨bk l,hQ _⟩ ?_;rintro g⟨I,m⟩;have m:=I.get l P;refine ck.call (V:=ZK q.2 b o (fQ q.1.row k++(b9,0)::v) (Y q.1.row-1) g) (by simpa [D] using Hr I.ok (F:=q.2) D V (ak N) F m k j J) ?_;rintro _ g⟨a,rfl,G,m,hc3,m,s3,P⟩;have V:=j6 j;have j:¬BY=b:=λe=>nB (e▸EY);have hB3:=m.get I.ok (I.get l d) j;have M:az (· =b) h g:=I.cr.trans m;have H:∀c,fy r.P=Z c->c≠b:=λc S e=>by have:=W.Gj O .P (.R i) b (by rw[<-e];exact S) p;cases this
 obtain⟨E,d,j,F,n,L,F,F,T,T⟩:=(R.P.go l M (λc S e=>H c e S)).el f;have lP:r.loc .P=Z E:=cj n;have nPb:=H E (cj n);have r:=F 1 1 ai;simp at r;have F:az (· =E) g (put g E (i*2+1) d [c6 a.a a.l a.c] j):=aX m.ok L;have A5:=T (⟨q.1.dst,fQ q.1.row k⟩,a) 1 [c6 a.a a.l a.c] ag rfl (put g E (i*2+1) d [c6 a.a a.l a.c] j) ⟨_,bc _ _ _ _ _ _⟩;have T:eo cH (put g E (i*2+1) d [c6 a.a a.l a.c] j) a (fQ q.1.row k):=⟨J,ft ⟨b,o,s3,(b9,0)::v,by rw[G,D],by rw[hc3,N];simp[V];omega,F.get m.ok P (Ne.symm nPb),x⟩⟩;simp[t,hB3,Ls,n,w,XO,L,r];refine U _ _ a ?_ ((cM.refl W l).row sO O f (M.trans' F (λc _ e=>fc ⟨.R i,ft Q,by rw[e];exact p⟩) (λc _ e=>fc ⟨.P,fc Q,by rw[e];exact lP⟩)) A5 T (λc S=>fc ?_))
 .repeat (refine aH.set ?_)
  exact aH.refl _ _
 rw[cj D];have T:fy a=Z b:=cj (by rw[G,D]);rw[<-S,T]
def xd(p j:Nat)(a:Bool×Int->Bool×Int)(q:GP):GP:=⟨q.dst,jR q.row p (a ((q.row[j]?).getD (b9,0)))⟩
def BN(k:Nat)(q:GP):GP:=⟨q.dst,fQ q.row k⟩
def akG:List Nat:=[12,13]++(aA 30).map (· +64)
def aqJ(h:aB)(n0:Nat)(B:SV)(z:List YB)(y:Nat)(r:YB)(f:GP->GP)(L:List Nat)(a:Nat)(e:Env)(m:Nat)(b:Env)(c:aB):Prop:=
 ∃(i:Nat) (d:List (GP×SV)),m=Y r.ps-i/\i<=Y r.ps/\Y d=i/\aH L e b/\bz b a i/\cM h c n0 B z B (z.set y {r with ps:=d++r.ps.drop i})/\d.map (·.1)=((r.ps.map (·.1)).take i).map f
def ach(A:cy h)(W:FZ h n0 B z)(x:n0<=h.ax){F X5 y j p l E x:Nat}(V:dR h F (aC name p0 rg B) E)(U:¬cm B z F)(P:dR h X5 [a5,b5,dC ef y] x)(x:¬cm B z X5){r:YB}(T:z[y]?=Z r)(L:∀q∈r.ps,Y q.1.row=l)(n:j<l)(n:p<=l)(n:l<1000000)(n:Y r.ps<1000000){gf:Bool×Int->Bool×Int}(now:∀(g:aB)(n:YB),cy g->FZ g n0 B (z.set y n)->az (cm B z) h g->∀w:Bool×Int,dQ FF fv [eU ⟨[dd w.1,dC ef w.2]⟩] g (λv a=>v=eU ⟨[dd (gf w).1,dC ef (gf w).2]⟩/\az aV g a))(X:cg e 0 F)(f5:cg e 5 X5)(n:bX e 8=fv)(f9:bz e 9 j)(b:bz e 10 p)(f62:bX e 62=r.P.v)(ZE:bz e 63 (Y r.ps))(M:bz e 64 0)(C':∀k a qs,aH akG e k->cM h a n0 B z B (z.set y {r with ps:=qs})->qs.map (·.1)=(r.ps.map (·.1)).map (xd p j gf)->C (.exit 0) k a):aN FF (.loop mU) e h C:=by
 have mj:=(cR.mp T).1;refine aN.loop (aqJ h n0 B z y r (xd p j gf) akG 64 e) ?_ (n:=Y r.ps) ⟨0,[],Q,J,Q,aH.refl _ _,M,by rw[show z.set y {r with ps:=[]++r.ps.drop 0} =z from H4 T];exact .refl W A,ag⟩;rintro m k a⟨i,d,rfl,k,k,Kp,s,T,t⟩;have f:=T.g;have G:=f.ok;have q0:=Kp.at X;have q5:=Kp.at f5;have q8:=Kp.at n;have q9:=Kp.at f9;have qE:=Kp.at b;have N:=Kp.at f62;have D:=Kp.at ZE;unfold mU;by_cases S:i<Y r.ps
 .have wi:=bZ ((i:Int)+1) J J;have⟨q,I⟩:=aR r.ps i S;have n:=iN (qs:=r.ps) k;rw[I] at n;have b:=L q (cK I);have⟨w,X⟩:=aR q.1.row j;have⟨o,b⟩:∃o:YB,o= {r with ps:=d++r.ps.drop i} :=⟨_,Q⟩;rw[<-b] at T;have L:(z.set y o)[y]?=Z o:=by rw[fq,bH Q,bH mj]
  have yi:o.ps[i]?=Z q:=by rw[b];exact n
  have R:=T.w.at L;have RP:eo iE a r.P (d++r.ps.drop i):=by have:=R.P;rw[b] at this;exact this
  have⟨bP,Jv,oP,sP,gy,sJ,XP,yV,pc,yX⟩:=RP.el n;have n:=pc 0 2 ai;simp[-ay] at n;have fe:=RP.len;have XJ:Y (d++r.ps.drop i)=Y r.ps:=by simp;omega
  simp at N;rw[gy,fe,XJ] at N;simp[N,D,s,S,n,-ay,aJ,cw,bh,aK];refine aN.cut (λO=>az aV a O/\(c_ O a.ax [dC ef q.1.dst,q.2.v])) ?_ ?_;exact⟨(az.refl G).var _ _,⟨a.clock,by simp[bg]⟩⟩;rintro O⟨u,AA⟩;have n:=f.ax;have lF:=A.wf _ _ V;have l5:=A.wf _ _ P;have n:∀c,c<h.ax->¬cm B z c->¬cm B (z.set y o) c:=λc hc hn h=>(T.s c h).elim hn J;have nX:¬cm B (z.set y o) a.ax:=λh=>aw (T.w.j8 G h)
  have H:=T.cr u;refine acg u.ok H.w (aw H.g.ax) (F:=F) (X5:=X5) (X:=a.ax) (y:=y) (i:=i) (j:=j) (p:=p) (q:=q) (w:=w) (gv:=gf w) (u.get G (f.get A V U)) (n F lF U) (u.get G (f.get A P x)) (n X5 l5 x) L yi AA nX X J J (by rw[b];show(d++r.ps.drop i).length<_;omega) (λg n=>now g o n.ok (H.w.cr u.ok n) ((f.trans u.cr).trans n.cr) w) (av q0) (av q5) (av q8) (av q9) (av qE) ag ag ?_;intro f f f x L;have P:=x.at (t:=64) (aq s);have n:=H.trans L;rw[wN] at n;have L:({o with ps:=o.ps.set i (⟨q.1.dst,jR q.1.row p (gf w)⟩,f)} :YB)= {r with ps:=(d++[(⟨q.1.dst,jR q.1.row p (gf w)⟩,f)])++r.ps.drop (i+1)} :=by rw[b];dsimp only;rw[set_drop k I]
  rw[L] at n;simp[P,wi];refine⟨Y r.ps-(i+1),J,i+1,d++[(⟨q.1.dst,jR q.1.row p (gf w)⟩,f)],Q,S,av k,?_,ag,n,?_⟩
  .refine aH.set (aH.set (aH.trans ?_ (x.cX)))
   exact au
  rw[aW,t,mw,gu,I,aW];simp[xd,X]
 .have:i=Y r.ps:=J
  subst this;rw[cG,ye] at T;simp[D,s];exact C' _ _ d (aH.set Kp) T (by rw[t,nz ag])
def akF:List Nat:=[14,15]++(aA 16).map (· +96)
def abv(E:cy h)(W:FZ h n0 B z)(r:n0<=h.ax){BY K0 y k l u sK:Nat}{r:YB}(b:z[y]?=Z r)(t:dR h BY [r.P.v] u)(F:¬cm B z BY)(w:dR h K0 [dC ef k] sK)(x:¬cm B z K0)(v:∀q∈r.ps,Y q.1.row=l)(U:k<l)(U:l<1000000)(U:Y r.ps<1000000)(U:cg e 6 K0)(L:cg e 7 BY)(f:bX e 94=r.P.v)(j:bz e 95 (Y r.ps))(T:bz e 96 0)(P:∀S o qs,aH akF e S->cM h o n0 B z B (z.set y {r with ps:=qs})->qs.map (·.1)=(r.ps.map (·.1)).map (BN k)->C (.exit 2) S o):aN FF (.loop mT) e h C:=by
 have n:=(cR.mp b).1;refine aN.loop (aqJ h n0 B z y r (BN k) akF 96 e) ?_ (n:=Y r.ps) ⟨0,[],Q,J,Q,aH.refl _ _,T,by rw[show z.set y {r with ps:=[]++r.ps.drop 0} =z from H4 b];exact .refl W E,ag⟩;rintro m S o⟨i,d,rfl,b,I,Kp,b,T,p⟩;have g:=T.g;have M:=g.ok;have V:=Kp.at U;have U:=Kp.at L;have s:=Kp.at f;have D:=Kp.at j;unfold mT;by_cases j:i<Y r.ps
 .have L:=bZ ((i:Int)+1) J J;have⟨q,H⟩:=aR r.ps i j;have O:=iN (qs:=r.ps) I;rw[H] at O;have f:=v q (cK H);have⟨a,A⟩:∃a:YB,a= {r with ps:=d++r.ps.drop i} :=⟨_,Q⟩;rw[<-A] at T;have v:(z.set y a)[y]?=Z a:=by rw[fq,bH Q,bH n]
  have yi:a.ps[i]?=Z q:=by rw[A];exact O
  have eP:a.P=r.P:=by rw[A]
  have R:=T.w.at v;have n:eo iE o r.P (d++r.ps.drop i):=by have:=R.P;rw[A] at this;exact this
  obtain⟨f,f,f,f,gy,f,f,f,X,f⟩:=n.el O;have f:=X 0 2 ai;simp[-ay] at f;have X:=n.len;have n:Y (d++r.ps.drop i)=Y r.ps:=by simp;omega
  simp at s;rw[gy,X,n] at s;simp[s,D,b,j,f,-ay,aJ,cw,bh,aK];refine aN.cut (λf=>az aV o f/\(c_ f o.ax [dC ef q.1.dst,q.2.v])) ?_ ?_;exact⟨(az.refl M).var _ _,⟨o.clock,by simp[bg]⟩⟩;rintro f⟨G,X⟩;have f:=g.ax;have lB:=E.wf _ _ t;have lK:=E.wf _ _ w;have f:∀c,c<h.ax->¬cm B z c->¬cm B (z.set y a) c:=λc n n h=>(T.s c h).elim n J;have n:=T.cr G;refine abu G.ok n.w (aw n.g.ax) (BY:=BY) (Kp:=K0) (X:=o.ax) (y:=y) (i:=i) (k:=k) (q:=q) v yi (by rw[eP];exact G.get M (g.get E t F)) (f BY lB F) (G.get M (g.get E w x)) (f K0 lK x) X J J (by rw[A];show(d++r.ps.drop i).length<_;omega) (av V) (av U) ag ag ?_;intro U U N t U;have V:=t.at (t:=96) (aq b);have f:=n.trans U;rw[wN] at f;have U:({a with ps:=a.ps.set i (⟨q.1.dst,fQ q.1.row k⟩,N)} :YB)= {r with ps:=(d++[(⟨q.1.dst,fQ q.1.row k⟩,N)])++r.ps.drop (i+1)} :=by rw[A];dsimp only;rw[set_drop I H]
  rw[U] at f;simp[V,L];refine⟨Y r.ps-(i+1),J,i+1,d++[(⟨q.1.dst,fQ q.1.row k⟩,N)],Q,j,av I,?_,ag,f,?_⟩
  .refine aH.set (aH.set (aH.trans ?_ (t.cX)))
   exact au
  rw[aW,p,mw,gu,H,aW];simp[BN]
 .have:i=Y r.ps:=J
  subst this;rw[cG,ye] at T;simp[D,b];exact P _ _ d (aH.set Kp) T (by rw[p,nz ag])
def agc{t:Int}{v:aa}(b:xs.Nodup)(c:xs[k]?=Z t)(h:IxQ xs t v):v=dC ef k:=by rcases h with⟨j,rfl,a,_⟩|⟨_,o⟩;have l:=(cR.mp a).1;rw[(ga l b).1 (a.trans c.symm)];exact absurd (cK c) o
def Vz(o:eB bs b k p t x)(C:bs[t]?=Z S)(A:bs[p]?=Z l):xf bs b k p t x=((bs.set t {S with aP:=S.aP.map (xd (uW (aI bs t) p) (aO (aI bs t) b).toNat (ia x.aP k))}).set b {x with aP:=x.aP.map (BN k)}).set p (Cj bs b k p t x p l):=by
 have D:=(cR.mp C).1;have G:=(cR.mp o.hx).1;have E:=(cR.mp A).1;refine Bc λi=>?_;rw[fq,fq,fq];simp only[List.length_set];by_cases c:p=i
 subst c;rw[bH Q,bH E,H9 A];rw[bM c];have a:¬i=p:=λe=>c e.symm;by_cases s:b=i
 subst s;rw[bH Q,bH G,H9 o.hx];unfold Cj;rw[bM a];congr 2;exact bf λq _=>by unfold wL BN;rw[bM (λe=>o.tb e.symm),bH rfl]
 rw[bM s];by_cases d:t=i;subst d;rw[bH Q,bH D,H9 C];unfold Cj;rw[bM a];congr 2;exact bf λq _=>by unfold wL xd ahG;rw[bH rfl]
 .rw[bM d];rcases u:bs[i]? with _|y;exact xE (by rw[JS];exact ri.1 u)
  .rw[H9 u];unfold Cj;rw[bM a];congr 1;have:y.aP.map (wL bs b k p t x i)=y.aP:=by
    conv=>rhs;rw[<-rk y.aP]
    exact bf λq _=>by unfold wL;rw[bM (λe=>d e.symm),bM (λe=>s e.symm)];rfl
   rw[this]
def aoQ{to:List Int}{b t:Int}(d:to.Nodup)(a:to[m]?=Z b):to.set m t=to.map λu=>if u=b then t else u:=by
 refine Bc λi=>?_;have c:=(cR.mp a).1;rw[fq,gu];by_cases e:m=i
 subst e;rw[bH Q,bH c,a];simp;rw[bM e];rcases o:to[i]? with _|u;rfl;have:u≠b:=λl=>e ((ga c d).1 (by rw[a,o,l]));simp[this]
def Of(A:cy h)(W:FZ h n0 B z)(n:n0<=h.ax)(hF:dR h F (aC name p0 rg B) E)(nF:¬cm B z F)(w1:jm encI N h d G (Edge.dm (cx (z.map YB.g))))(n:∀c,cm B z c->c<N)(n:EB (z.map YB.g))(O:eB (z.map YB.g) b k p t x):aY FF 103 [dB (Z ⟨F,0,K⟩),c6 (Z ⟨d,0,K⟩) (Y z) (Y z),eU ⟨[dC ef p,dC ef b,dC ef t]⟩] h (λ_ D=>∃U,cM h D n0 B z B U/\U.map YB.g=xf (z.map YB.g) b k p t x):=by
 have dq:=W.A.len;have mj:Y (z.map YB.g)=Y z:=yd ..;have X:=n.n50;rw[mj] at X;have X:∀ {i:Nat} {y:GB},(z.map YB.g)[i]?=Z y->∃z',z[i]?=Z z'/\z'.g=y:=λh=>by rw[gu] at h;exact cQ.1 h
 have⟨o,O4,eb⟩:=X O.hx;have⟨S,Wk⟩:∃y,(z.map YB.g)[t]?=Z y:=⟨_,iK (O.t1 n).2⟩;have⟨f,C,et⟩:=X Wk;have⟨l,G2,hbp⟩:=O.pm;have⟨L,hyp,ep⟩:=X G2;have lb:=(cR.mp O4).1;have lt:=(cR.mp C).1;have lp:=(cR.mp hyp).1;have⟨ab,eab⟩:∃a,a=aI (z.map YB.g) b:=⟨_,Q⟩;have⟨X,eat⟩:∃a,a=aI (z.map YB.g) t:=⟨_,Q⟩;have P:=n.ahead (k:=b) (by rw[mj];exact lb);have V:=n.ahead (k:=t) (by rw[mj];exact lt);have Bg:=O.hp;have T:=O.bt n;have⟨j,ej,hj,bp⟩:=j_ T;have ndb:=eC (z.map YB.g) b;have ndt:=eC (z.map YB.g) t;have sot:=fF (z.map YB.g) t;have r:=h_ (z.map YB.g) b;have lat:=h_ (z.map YB.g) t;have aoK:=n.rows b o.g (by rw[gu,O4];rfl);have auG:=n.rows t f.g (by rw[gu,C];rfl);rw[mj] at r lat;rw[<-eab] at P Bg ndb r aoK;rw[<-eat] at V T ej hj bp ndt sot lat auG;have⟨T,hwb⟩:=aR G b (by rw[w1.len];exact(cR.mp P).1);have⟨r,hwt⟩:=aR G t (by rw[w1.len];exact(cR.mp V).1);have plb:Y o.ps<1000000:=by have:=n.pl o.g (iT.2 ⟨o,cK O4,Q⟩);simp[YB.g] at this;omega
 have plt:Y f.ps<1000000:=by have:=n.pl f.g (iT.2 ⟨f,cK C,Q⟩);simp[YB.g] at this;omega
 have kj:=(cR.mp Bg).1;have Gh:∀ {D:aB},jm encI N D d G (Edge.dm (cx (z.map YB.g)))->bj encI D T.v ab/\bj encI D r.v X/\cC D d b 1=Z [T.v]/\cC D d t 1=Z [r.v]:=λw=>by have⟨s',hd⟩:=w.ch;exact⟨(w.acc b T ab hwb P).sl,(w.acc t r X hwt V).sl,tR hd hwb,tR hd hwt⟩
 refine aY.of FI ?_;unfold xq;have⟨sb,st,rb,V⟩:=Gh w1;have⟨T,hd⟩:=w1.ch;have T:=A.bU hd;simp[-ay] at rb V;simp[lb,rb,aK,bh,dO,T,-ay];refine ck.cut (λT=>az aV h T/\T.ax=h.ax+2/\T.tr.get h.ax=Z (.ch [dC ef p,dC ef b,dC ef t] b9 0 0)/\T.tr.get (h.ax+1)=Z (.ch [dC ef 0] b9 0 0)) ?_ ?_
 .have N:¬h.ax=h.ax+1:=J
  exact⟨(((az.refl A).new _ _).tick).new _ _,ag,av N,ag⟩
 rintro T⟨g2,r,r,hK2⟩;have zC:=g2.ok;have w2:=w1.grow A g2 (λb hb h=>h);have⟨sb,st,_,V⟩:=Gh w2;refine ck.call (V:=λv D=>D=T/\IxQ ab p v) (ak (sQ sb J (p:Int))) ?_;rintro _ P⟨rfl,hv⟩;obtain rfl:=agc ndb Bg hv;have W2:=W.cr A g2;have⟨bB,s,oB,u,dY,wW,Nl,dM,cV,eI⟩:=W2.A.el O4;have rP:=cV 0 1 ai;have fe:=(W2.at O4).P.len;have e_:=g2.get A hF;have tJ:=e_;simp[aC] at tJ;rw[dY,dq] at tJ;have⟨sd2,OX⟩:=w2.ch;have oF:=zC.bU e_;have N':=zC.bU wW;have o5:=zC.bU r;have oK:=zC.bU hK2;have od2:=zC.bU OX;have lF:=A.wf _ _ hF;have ld:=A.wf _ _ hd;have lB:=W.A.bU A (fK dY);have N:¬F=h.ax+1:=J
 have n2:¬bB=h.ax+1:=J
 have n3:¬h.ax=h.ax+1:=J
 have n4:¬d=h.ax+1:=J
 simp[-ay] at rP V;simp[hK2,tJ,r,rP,V,lb,lt,aD tJ,aD r,cw,aJ,aK,bh,dO,oF,N',o5,oK,od2,N,n2,n3,n4,-ay];have m1:¬h.ax+1=P.ax:=J
 have m2:¬h.ax=P.ax:=J
 refine ck.cut (λh4=>az aV h h4/\(c_ h4 h.ax [dC ef p,dC ef b,dC ef t])/\(c_ h4 (h.ax+1) [dC ef k])/\c_ h4 P.ax [o.P.v]) ?_ ?_;exact⟨(((g2.put ⟨0,hK2⟩ (fc J)).tick).var _ _).tick,⟨0,by simp[n3,m2,r]⟩,⟨P.clock,av m1⟩,⟨_,by simp;rfl⟩⟩;rintro h4⟨g4,⟨s5,r⟩,⟨sK,hK⟩,⟨sY,hY⟩⟩;have ot:=g4.ok;have w4:=w1.grow A g4 (λb hb h=>h);have⟨sb,st,rb,V⟩:=Gh w4;have⟨sd4,hd4⟩:=w4.ch;refine ck.call (V:=λv D=>D=h4/\IxQ X b v) (ak (sQ st J (b:Int))) ?_;rintro _ h5'⟨rfl,hv⟩;obtain rfl:=agc ndt hj hv;have o5:=ot.bU r;have od4:=ot.bU hd4;simp[-ay] at V;simp[r,V,lt,aD r,aK,o5,od4,-ay];refine ck.cut (λV=>az aV h5' V) (bk ot) ?_;rintro V g6;have CA:=g4.trans g6;have ok6:=g6.ok;have w6:=w1.grow A CA (λb hb h=>h);have⟨_,st6,_,_⟩:=Gh w6;refine ck.call (V:=λv D=>D=V/\∃c:Bool,v=.tuple #[dC ef (uW X p),dd c]) (ak (Qa st6 J sot (p:Int))) ?_;rintro _ h7⟨rfl,c,rfl⟩;have h56:=g6.get ot r;have hF6:=CA.get A hF;have W6:=W.cr A CA;have V:=hF6;simp[aC] at V;have⟨Z4,s,oB,u,kU,wW,Nl,dM,cV,eI⟩:=W6.A.el C;rw[dY] at kU;cases kU;have rP:=cV 0 1 ai;have Xw:=(W6.at C).P.len;rw[dY,dq] at V;have oF:=ok6.bU hF6;have N':=ok6.bU wW;have o5:=ok6.bU h56;simp[-ay] at rP;simp[h56,V,rP,lt,Xw,aD h56,aD V,aK,oF,N',o5,-ay];refine aN.cut (λh8=>az aV h7 h8) (bk ok6) ?_;rintro h8 g8;have V0:=CA.trans g8;have V:=g8.ok;have g58:=g6.trans g8;have h58:=g58.get ot r;have hK8:=g58.get ot hK;have hY8:=g58.get ot hY;have hF8:=V0.get A hF;have W8:=W.cr A V0;have r:∀c,h.ax<=c->¬cm B z c:=λc hc hn=>aw (W.j8 A hn)
 have n3':h.ax<=P.ax:=J
 have l8:=V0.ax;refine ach V W8 J (F:=F) (X5:=h.ax) (y:=t) (j:=j) (p:=uW X p) (l:=Y X) hF8 nF h58 (r _ (fE _)) C (λq hq=>auG q.1 (iT.2 ⟨q,hq,Q⟩)) bp (NN _ _) J plt (fv:=.func (.func 163) #[] #[dB (Z ⟨P.ax,0,K⟩),dB (Z ⟨h.ax+1,0,K⟩)]) (gf:=ia (o.ps.map (·.1)) k) (λg z' eY Z1 G1 w=>?_) ag ag ag ag ag (av Xw) ag ag ?_;have Zb:=Z1.at (i:=b) (y:=o) (by rw[fq,bM O.tb];exact O4);exact dQ.func (ak (agI eY Zb.P Zb.ps (λq hq=>by rw[aoK q.1 (iT.2 ⟨q,hq,Q⟩)];exact kj) plb (G1.get V hY8 (r _ n3')) (G1.get V hK8 (r _ J)) w));intro e9 h9 qs K9 T9 M9;have k0:cg e9 0 F:=K9.at ag;have k5:cg e9 5 h.ax:=K9.at ag;have k6:cg e9 6 (h.ax+1):=K9.at ag;have k7:cg e9 7 P.ax:=K9.at ag;have g9:=T9.g;have ok9:=g9.ok;have hK9:=g9.get V hK8 (r _ J);have hY9:=g9.get V hY8 (r _ n3');have arz:∀c,h.ax<=c->c<h8.ax->¬cm B (z.set t {f with ps:=qs}) c:=λc hc T hn=>(T9.s c hn).elim (r c hc) J;have lY:=V.wf _ _ hY8;have lK:=V.wf _ _ hK8;have l5':=V.wf _ _ h58;have l9:=g9.ax;have hYl:=(W8.at O4).P.len;simp[k7,hY9,hYl];have aBj:(z.set t {f with ps:=qs})[b]?=Z o:=by rw[fq,bM O.tb];exact O4
 refine abv ok9 T9.w J (BY:=P.ax) (K0:=h.ax+1) (y:=b) (k:=k) (l:=Y ab) aBj hY9 (arz _ n3' lY) hK9 (arz _ J lK) (λq hq=>aoK q.1 (iT.2 ⟨q,hq,Q⟩)) kj J plb (av k6) (av k7) (av hYl) ag ag ?_;intro VY KS qs2 K10 T10 M10;have k0:cg VY 0 F:=K10.at (aq k0);have k5:cg VY 5 h.ax:=K10.at (aq k5);have T':=(((cM.refl W A).cr V0).trans T9).trans T10;have g':=T'.g;have H:=g'.ok;have⟨U,ezs⟩:∃U,U=(z.set t {f with ps:=qs}).set b {o with ps:=qs2} :=⟨_,Q⟩;rw[<-ezs] at T';have arU:=g'.get A hF nF;have M:=(T9.trans T10).g.get V h58 (r _ (fE _));have ez1:U.map YB.g=((z.map YB.g).set t {f.g with aP:=f.g.aP.map (xd (uW X p) j (ia o.g.aP k))}).set b {o.g with aP:=o.g.aP.map (BN k)} :=by
  rw[ezs,dr,dr];have r:({f with ps:=qs} :YB).g= {f.g with aP:=f.g.aP.map (xd (uW X p) j (ia o.g.aP k))} :=by simp only[YB.g,M9]
  have V:({o with ps:=qs2} :YB).g= {o.g with aP:=o.g.aP.map (BN k)} :=by simp only[YB.g,M10]
  rw[r,V]
 have ez2:=Vz O Wk G2;rw[<-eat,ej,Xn,<-et,<-eb] at ez2;rw[<-ez1] at ez2;have⟨r,I,V,zpo⟩:∃r,U[p]?=Z r/\r.T=L.T/\r.to=L.to:=by rw[ezs,fq,bM (λe=>O.pb e.symm),fq];by_cases e:t=p;subst e;rw[bH Q,bH lt];obtain rfl:f=L:=bI (C.symm.trans hyp);exact⟨_,Q,Q,Q⟩;rw[bM e];exact⟨L,hyp,Q,Q⟩
 have V:Y U=Y z:=by rw[ezs];simp
 have⟨Z4,s,oB,u,kU,wW,Nl,dM,cV,eI⟩:=T'.w.A.el I;rw[dY] at kU;cases kU;have rT:=cV 5 1 ai;simp[-ay] at rT;have aak:=arU;simp[aC] at aak;rw[dY,dq] at aak;have oF:=H.bU arU;have N':=H.bU wW;have o5:=H.bU M;have V:=T'.w.at I;have mR:=V.T.len;have hpo:L.to=l.to:=congrArg GB.to ep;have ndp:L.to.Nodup:=by rw[hpo];exact n.nd (cK G2)
 have V:Y L.to<=2:=by rw[hpo];exact n.two (cK G2)
 have⟨m,V⟩:=iF (show(b:Int)∈L.to by rw[hpo];exact hbp);have hml:=(cR.mp V).1;simp[k0,k5,M,aak,rT,lp,aD M,aD aak,aK,oF,N',o5,-ay];refine ck.cut (λn=>az aV KS n/\KS.clock<=n.clock) ⟨((bk H).tick),by simp;omega⟩ ?_;rintro n⟨g11,c11⟩;have T11:=T'.cr g11;have OT:bj encI n r.T.v L.to:=by rw[<-zpo];exact(T11.w.at I).T.sl
 refine ck.call (V:=λv D=>D=n/\IxQ L.to b v) (ak (sQ OT J (b:Int))) ?_;rintro _ h12⟨rfl,hv⟩;obtain rfl:=agc ndp V hv;have n:=(T11.w.at I).T;rw[zpo] at n;obtain⟨bT,csT,oT,L,L,Xx,hjT,afH,uN,afZ⟩:=n.el V;have ayK:=g11.get H M;have aCu:=H.st _ _ _ _ _ M;have n:=afH 0 1 ai;simp at n;rw[zpo] at mR;simp[ayK,aCu,L,mR,hml,Xx,n];have n:=aX (off:=m) (vs:=[aL ef t]) g11.ok Xx;have A13:=afZ (t:Int) 0 [dC ef t] ag rfl (put h12 bT m csT [dC ef t] oT) ⟨h12.clock,ag⟩;have T13:=T11.to (i:=p) J I (n.cX (λc _ e=>fc ⟨.T,Q,by rw[e];exact cj L⟩)) A13;refine⟨J,_,T13,?_⟩;have L:r.g= {l with aP:=l.aP.map (wL (z.map YB.g) b k p t o.g p)} :=by
  have g:(U.map YB.g)[p]?=Z r.g:=by rw[gu,I];rfl
  rw[ez1,fq,bM (λe=>O.pb e.symm),fq] at g;by_cases e:t=p
  .subst e;rw[bH Q,bH (by rw[mj];exact lt)] at g;rw[G2] at Wk;cases Wk;rw[<-bI g,<-et];have U:f.g.aP.map (xd (uW X t) j (ia o.g.aP k))=f.g.aP.map (wL (z.map YB.g) b k t t o.g t):=bf λq _=>by unfold wL xd ahG;rw[bH Q,<-eat,ej,Xn]
   simp only[U]
  .rw[bM e,G2] at g;rw[<-bI g];have:l.aP.map (wL (z.map YB.g) b k p t o.g p)=l.aP:=by
    conv=>rhs;rw[<-rk l.aP]
    exact bf λq _=>by unfold wL;rw[bM (λU=>e U.symm),bM O.pb];rfl
   rw[this]
 rw[<-eb,ez2,dr,aoQ ndp V];congr 1;have g:r.ps.map (·.1)=l.aP.map (wL (z.map YB.g) b k p t o.g p):=congrArg GB.aP L;have T:r.ls.map (·.1)=l.list:=congrArg GB.list L;have P:r.kind=l.kind:=congrArg GB.kind L;have h4:r.on=l.on:=congrArg GB.on L;unfold Cj;rw[bH rfl];simp only[YB.g] at g⊢;rw[g,T,P,h4,hpo]
def axM(h:aB)(name:ByteArray)(p n0 aF:Nat)(B:SV)(z:List YB)(m:Nat)(d:Env)(b:aB):Prop:=
 ∃(n r:Nat) (c:SV) (a:List YB),m=100-n/\n<=100/\cg d 1 h.ax/\cg d 2 (h.ax+1)/\bz d 3 n/\cM h b n0 B z c a/\xk c a/\(c_ b h.ax (aC name p r c))/\¬cm c a h.ax/\(c_ b (h.ax+1) [eT ⟨⟨[]⟩⟩,dC ef 0,dC ef 0,c6 K 0 0])/\¬cm c a (h.ax+1)/\St r (a.map YB.g)/\p<=r/\r<=aF/\∀res,Om xh p (100-n) (a.map YB.g) res->Om xh p 100 (z.map YB.g) res
def Zw(i:cy h){name:ByteArray}(P:n0<=h.ax)(W:FZ h n0 B z)(y:xk B z)(S:St aF (z.map YB.g))(L:p<=aF)(P:aF<1000000):aY FF 48 [eU ⟨aC name p aF B⟩] h (λv A=>∃res,Om xh p 100 (z.map YB.g) res/\zH name p n0 B z res h v A):=by
 have N:¬h.ax=h.ax+1:=J
 refine aY.of NC ?_;unfold DG;simp[aC];refine aN.cut (λg=>az aV h g/\(c_ g h.ax (aC name p aF B))/\c_ g (h.ax+1) [eT ⟨⟨[]⟩⟩,dC ef 0,dC ef 0,c6 K 0 0]) ⟨((az.refl i).new _ _).new _ _,⟨0,by simp[aC,N]⟩,⟨0,ag⟩⟩ ?_;rintro g⟨r,P,X⟩;have f:∀c,h.ax<=c->¬cm B z c:=λc V j=>aw (W.j8 i j)
 refine aN.loop (axM h name p n0 aF B z) ?_ (n:=100) ⟨0,aF,B,z,Q,J,ag,ag,ag,(cM.refl W i).cr r,y,P,f _ (fE _),X,f _ J,S,L,fE _,λ_ h=>h⟩;rintro m X F⟨n,r,y,P,rfl,j,C,q2,L,T',xi2,⟨E,w⟩,i,⟨H,hR⟩,nR,f,hpr,U,Kp⟩;have T:=T'.g;have X:=T.ok;have U:=T.ax;have lF:=X.wf _ _ w;have lR:=X.wf _ _ hR;have mj:Y (P.map YB.g)=Y P:=yd ..;unfold AG;simp[C];refine bm.call (V:=λ_ A=>∃T,cM F A n0 y P y T/\T.map YB.g=yk (P.map YB.g) (Y P)) (by simpa [C] using Uz X T'.w J w i f.E) ?_;rintro _ T⟨U,D,M3⟩;have r:=f.EP (Y P);rw[<-M3] at r;have ago:∀c,c<F.ax->¬cm y P c->¬cm y U c:=λc V j h=>(D.s c h).elim j J;have oh:=D.g.get X w i;have xG:=D.g.get X hR nR;have X:=oh;simp[aC] at X;have w:=D.g.ax;have M:=D.g.ok;simp[C,X];refine bm.call (V:=λv A=>∃res,xh p (U.map YB.g) res/\zH name p n0 y U res T v A) (by simpa [aC] using Zx M (name:=name) J D.w (D.x xi2) r.E r.rg (λb hb=>aw (r.ll hb)) hpr J) ?_;rintro _ h4⟨⟨w,X⟩,D4,o,a,rfl,f,F⟩;have⟨X,hp4,hr4⟩:=D4.st r hpr;dsimp only at F X hp4 hr4;rw[<-F] at X;have nF3:=ago _ lF i;have r:=ago _ lR nR;have i:∀c,c<T.ax->¬cm y U c->¬cm o a c:=λc V j h=>(f.s c h).elim j J;have T:=i _ J nF3;have ZE:=i _ J r;have U:=f.g.get M oh nF3;have Hx:=f.g.get M xG r;have r:=f.g.ok;have j:=U;simp[aC] at j;simp[C,aC,j];refine bm.cut (λO=>az (· =h.ax) h4 O/\c_ O h.ax (aC name p w o)) ⟨aX r j,⟨h4.clock,by simp[aC]⟩⟩ ?_;rintro O⟨U,y,i⟩;have y:cM h O n0 B z o a:=((T'.trans D).trans f).go U (λc e=>⟨J,λh=>by rw[e] at h;exact T h⟩);have s:=U.ok;have j:=U.get r Hx (λe=>N e.symm);have r:=i;simp[aC] at r;have r:Y (a.map YB.g)=Y a:=yd ..;refine bm.call (V:=λv A=>az aV O A/\∃d G,v=c6 (Z ⟨d,0,K⟩) (Y a) (Y a)/\jm encI O.ax A d G (Edge.dm (cx (a.map YB.g)))) (by simpa [aC] using kS s (name:=name) (p:=p) (r:=w) y.w.view X.E.ends) ?_;rintro _ h6⟨r,d,G,rfl,w6⟩;have W6:=y.w.cr s r;have J':=r.ok;have hF6:=r.get s i;have DL:=r.get s j;have i:=hF6;simp[aC] at i;simp[C,i,aD i,-ay];refine bm.call (V:=aey (a.map YB.g) h6) (by simpa [aC] using Xi J' (name:=name) (p:=p) J W6 X w6) ?_;rintro _ j⟨l,V⟩;have T7:cM h j n0 B z o a:=(y.cr r).cr l;have N':=l.get J' hF6;have Wc:=l.get J' DL;have NP:=N';have I:=Wc;simp[aC] at NP;have i:=f.g.ax;have i:=U.ax;have i:=r.ax;have U:=l.ax;have nR0:¬h.ax=j.ax:=J
 have i:¬h.ax+1=j.ax:=J
 have X4:xk o a:=f.x (D.x xi2);have tj:xh p (yk (P.map YB.g) (Y (P.map YB.g))) (w,a.map YB.g):=by rw[mj,<-M3,F];exact D4
 have U:∀F,az (λc=>c=h.ax+1) j F->(100-n=0\/Z6 (a.map YB.g))->∃P r,Om xh p 100 (z.map YB.g) (P,r)/\zH name p n0 B z (P,r) h (eU ⟨aC name p w o⟩) F:=λF u f=>
  ⟨w,a.map YB.g,Kp _ (.done tj f),o,a,Q,T7.go u (λc e=>⟨J,λh=>by rw[e] at h;exact ZE h⟩),Q⟩
 rcases V with⟨b,k,q,t,x,rfl,P⟩|⟨rfl,NW⟩
 .by_cases r:n=100;subst r;simp[C,q2,L,NP,I,nR0,i];exact U _ (((az.refl l.ok).var _ _).put ⟨H,by simp[i,I]⟩ (ft Q)) (fc Q)
  .have r:((n:Int)==100)=b9:=by simp;omega
   have wn:=bZ ((n:Int)+1) J J;simp[C,L,r,bg];refine bm.cut (λF=>az aV j F) ((az.refl l.ok).var _ _) ?_;rintro F u;have r:=T7.cr u;have j:∀c,cm o a c->c<O.ax:=λc V=>y.w.j8 s V;refine bm.call (V:=λ_ A=>∃f,cM F A n0 o a o f/\f.map YB.g=xf (a.map YB.g) b k q t x) (by simpa [C] using Of u.ok r.w (aw r.g.ax) (u.get l.ok N') T (w6.grow J' (l.trans u) (λb hb h=>h)) j X.E P.1) ?_;rintro _ y⟨f,y,j⟩;have V:=u.ax;have hF8:=u.get l.ok N';have V:=u.get l.ok Wc;have F:=X.str P.1;rw[<-j] at F;simp[L,wn];refine⟨100-(n+1),J,n+1,w,o,f,Q,J,av C,av q2,ag,r.trans y,y.x X4,⟨_,y.g.get u.ok hF8 T⟩,λh=>(y.s _ h).elim T J,⟨_,y.g.get u.ok V ZE⟩,λh=>(y.s _ h).elim ZE J,F,hp4,J,λres y=>Kp res ?_⟩;rw[j] at y;have:100-n=(100-(n+1))+1:=J
   rw[this];exact .step tj P y
 simp[C,q2,L,NP,I,nR0,i];exact U _ (((az.refl l.ok).var _ _).put ⟨H,by simp[i,I]⟩ (ft Q)) (ft NW)
def akr(F:gU f)(T:J1 f res):aio res.2:=by have l:=F.head.aF;have S:=(T.st xh.st F.st J).1;have c:=S.E.n50;exact⟨J,λb a=>⟨aw (S.p b a),aw (S.ll a)⟩⟩
def adG(k:cy h){G F:SV}{u:GU}(y:uR h G F u){I b:Int}(Kp:∀g,az aV h g->aY FF 13 [eU ⟨[G.v,F.v]⟩] g (λv d=>v=eU ⟨[dC ef I,dC ef b]⟩/\zG (Dx u) g v d)):aY FF 20 [eU ⟨[G.v,F.v]⟩] h (DoZ J1 u I b h):=by
 refine aY.of Tc ?_;unfold Ip;have n:¬h.ax=h.ax+1:=J
 have m:¬h.ax=h.ax+1+1:=J
 simp[n,m];refine bm.cut (λg=>az aV h g/\(c_ g h.ax [G.v,F.v])/\(c_ g (h.ax+1) [c6 K 0 0,c6 K 0 0])/\(c_ g (h.ax+1+1) [dC ef 0,dC ef 0])) ?_ ?_;exact⟨(((az.refl k).new _ _).new _ _).new _ _,⟨0,by simp[n,m]⟩,⟨0,ag⟩,⟨0,ag⟩⟩;rintro g⟨H,⟨sU,p⟩,⟨w,i⟩,⟨m,n⟩⟩;refine bm.call (V:=λv d=>v=eU ⟨[dC ef I,dC ef b]⟩/\zG (Dx u) g v d) (ak (Kp g H)) ?_;rintro _ l⟨rfl,s,c,a,d,D⟩;simp at d;obtain⟨rfl,rfl⟩:=d;have o:=H.trans s;have j:=s.get H.ok p;have d:=s.get H.ok i;have i:=s.get H.ok n;have p:=H.ok.wf _ _ n;have n:=s.ax;have E:¬h.ax+1+1=h.ax+1:=J
 have M:¬h.ax+1=h.ax+1+1:=J
 rcases D with D|⟨rfl,rfl,C⟩
 .have t:(I==0)=b9:=by simp[D]
  have N:¬h.ax+1=l.ax:=J
  have n:¬h.ax+1+1=l.ax:=J
  have p:¬l.ax=h.ax+1:=J
  have r:¬l.ax=h.ax+1+1:=J
  simp[t,d,i,N,n,p,r,E,M,aJ,aK];have A:az aV h (tick (put (aM l [dC ef 0,dC ef 0] 0) l.ax 0 [dC ef 0,dC ef 0] [dC ef I,dC ef b] 0)):=(o.var _ _).tick;exact⟨(A.put ⟨w,by simp[d,N]⟩ (fc J)).put ⟨m,by simp[i,n,E]⟩ (fc J),cU,cU,I,b,Q,fc ⟨D,Q,Q,Q,Q⟩⟩
 .have b:=j;simp at b;have j:¬h.ax=l.ax:=J
  simp[b,j];refine bm.cut (λj=>az aV l j) ((az.refl s.ok).var _ _) ?_;intro n A;have j:=o.trans A;have L:=A.get s.ok d;have o:=A.get s.ok i;refine bm.call (V:=akA J1 u.globals u.funcs n) (by simpa using Xd (P:=J1) (fv:=.func (.func 48) #[] #[]) j.ok (y.mono k j) C.unit.gn (λd k=>aw ((C.unit.gs d k).2)) C.unit.fn C.form (λf d res T=>akr (C.form f d) T) (λf d g b n0 aF B z P k r k a5 k p k y t i=>by
   have w:=C.form f d;have q:f.aF.toNat=aF:=J
   have T:f.params.toNat=b:=J
   have d:=w.st;rw[q,<-i] at d;have Kp:=Zw P (name:=f.name) (p:=b) r y t d p k;rw[i] at Kp;unfold J1;rw[T];exact dQ.func (ak Kp))) ?_
  rintro _ t⟨b,d,i,c,a,rfl,D⟩;have O:=b.get A.ok L;have p:=b.get A.ok o;simp[O,p,E,M];have k:=((az.refl b.ok).put (S:=λx=>x=h.ax+1\/x=h.ax+1+1) (off:=0) (vs:=[bo d.a d.l d.c,bo i.a i.l i.c]) ⟨_,O⟩ (ft (fc Q))).put (b:=h.ax+1+1) (off:=0) (cs:=[dC ef 0,dC ef 0]) (o:=0) (vs:=[dC ef c,dC ef a]) ⟨m,av p⟩ (ft (ft Q));generalize put (put t _ _ _ _ _) _ _ _ _ _=h7 at k⊢;have t:h.ax+1+1<n.ax:=A.ok.wf _ _ o;exact⟨(j.trans b).trans' k aj (λx b e=>J),d,i,c,a,ag,ft ⟨Q,Q,C,(D.go k λc D=>fc J).low j.ax⟩⟩
def aqQ:List Nat:=[8,9]++(aA 15).map (· +28)
def axQ(A:aB)(o:List (Bool×Int))(xs:List GI)(e:Env)(m:Nat)(a:Env)(b:aB):Prop:=
 ∃(j:Nat) (L:SV),m=Y xs-j/\j<=Y xs/\aH aqQ e a/\bX a 8=L.v/\bz a 9 j/\az aV A b/\AL cH A.ax b L.v (o++(xs.take j).flatMap fO)
def adw(p:cy O)(f:az aV O A)(k:az aV A g){P I L0:SV}{xs:List GI}(r:ae (iR O) 8 O I.v xs)(t:dR A X (P.v::I.v::s) D)(z:AL cH A.ax g L0.v o)(d:Y o<=1)(h:Y xs<=300)(T:∀x∈xs,Y x.args<=100)(q:cg e 7 X)(i:bX e 8=L0.v)(W:bz e 9 0)(V:∀w l (L:SV),aH aqQ e w->bX w 8=L.v->az aV A l->AL cH A.ax l L.v (o++xs.flatMap fO)->C (.exit 2) w l):aN FF (.loop mc) e g C:=by
 have N:=ae.len r;refine aN.loop (axQ A o xs e) ?_ (n:=Y xs) ⟨0,L0,Q,J,aH.refl _ _,i,W,k,ak z⟩;rintro m w l⟨j,L,rfl,d,Kp,b,E,k,u⟩;have h:=k.ok;have w:=f.trans k;have S:=Kp.at q;have a:=k.get f.ok t;simp at a;rw[N] at a;unfold mc;by_cases H:j<Y xs
 .have B:=bZ ((j:Int)+1) J J;have⟨x,d⟩:=aR xs j H;have n:=T x (cK d);obtain⟨q,z,t,G,_,_,⟨z,rfl,q⟩,n,i⟩:=ae.later p r d;have n:=i l w 0 8 ai;simp[-ay,aQ] at n;rw[G] at a;have r:=k.ax;have r:Y (o++(xs.take j).flatMap fO)<50000:=by
   have:=BR (f:=fO) (k:=102) (xs:=xs.take j) λy z=>by have:=zx y;have:=T y (Xp z);omega
   have:Y (xs.take j)*102<=300*102:=Gd _ (by simp;omega);rw[IA];omega
  have T:=zx x;have W:=Cz (f:=fO) d;simp[S,b,E,a,aD a,H,n,-ay];refine bm.call (V:=λv M=>az aV l M/\∃U:SV,v=U.v/\bx cH l.ax M U.v (fO x)) (by simpa [aQ] using MI h ((MT q).cr p w) (x:=x) J) ?_;rintro _ M⟨w,U,rfl,T⟩;have i:=w.ax;obtain⟨z,n,n,q,f⟩:=Fq (bytes:=16) w.ok (z:=[dd b9,dC ef 0]) rfl (u.cr h w) T.sl J ai J;obtain⟨t,rfl⟩:=q.sv;simp[b];refine df (ak n) ?_;simp[E,B];refine⟨Y xs-(j+1),J,j+1,t,Q,H,?_,ag,ag,(k.trans w).trans' f aj (λc F e=>aw (u.of e)),by rw[W,<-KN];exact q⟩
  exact au
 .have:j=Y xs:=J
  subst this;rw[mI] at u;simp[S,E,a,aD a,-ay];refine V _ _ L ?_ (av b) k u
  exact au
def aqP:List Nat:=[8,10]++(aA 15).map (· +43)
def axP(A:aB)(o:List (Bool×Int))(ps:List GP)(e:Env)(m:Nat)(a:Env)(b:aB):Prop:=
 ∃(j:Nat) (L:SV),m=Y ps-j/\j<=Y ps/\aH aqP e a/\bX a 8=L.v/\bz a 10 j/\az aV A b/\AL cH A.ax b L.v (o++(ps.take j).flatMap (·.row))
def adx(M:cy O)(U:az aV O A)(k:az aV A g)(S:ae (pR O) 2 O P.v ps)(t:dR A X (P.v::s) D)(G:AL cH A.ax g L0.v o)(x:Y o<=50000)(w:Y ps<=300)(b:∀p∈ps,Y p.row<=100)(q:cg e 7 X)(x:bX e 8=L0.v)(w:bz e 10 0)(h:∀T l (L:SV),aH aqP e T->bX T 8=L.v->az aV A l->AL cH A.ax l L.v (o++ps.flatMap (·.row))->C (.exit 4) T l):aN FF (.loop mb) e g C:=by
 have V:=ae.len S;refine aN.loop (axP A o ps e) ?_ (n:=Y ps) ⟨0,L0,Q,J,aH.refl _ _,x,w,k,ak G⟩;rintro m T l⟨j,L,rfl,v,Kp,F,u,k,w⟩;have d:=k.ok;have v:=U.trans k;have I:=Kp.at q;have a:=k.get U.ok t;simp at a;rw[V] at a;unfold mb;by_cases E:j<Y ps
 .have U:=bZ ((j:Int)+1) J J;have⟨p,H⟩:=aR ps j E;have W:=b p (cK H);obtain⟨q,uV,t,r,_,_,⟨z,rfl,B⟩,f,f⟩:=ae.later M S H;have z:=f l v 1 1 ai;simp[-ay] at z;rw[r] at a;have r:=k.ax;have W:=Cz (f:=λp:GP=>p.row) H;have r:Y (o++(ps.take j).flatMap (·.row))<90000:=by have:=BR (f:=λp:GP=>p.row) (k:=100) (xs:=ps.take j) λy V=>b y (Xp V);have:Y (ps.take j)*100<=300*100:=Gd _ (by simp;omega);rw[IA];omega
  simp[I,F,u,a,aD a,E,z,-ay];have⟨z,n,V,N,f⟩:=Fq (bytes:=16) d (z:=[dd b9,dC ef 0]) rfl w ((MT B).cr M v) J ai J;obtain⟨t,rfl⟩:=N.sv;refine df (ak V) ?_;simp[u,U];refine⟨Y ps-(j+1),J,j+1,t,Q,E,?_,ag,ag,k.trans' f aj (λc V e=>aw (w.of e)),by rw[W,<-KN];exact N⟩
  exact au
 .have:j=Y ps:=J
  subst this;rw[mI] at w;simp[I,u,a,aD a,-ay];refine h _ _ L ?_ (av F) k w
  exact au
def aiG{r:Int}(h:M[j]?=Z v):cE r (M.take (j+1))=cE r (M.take j)+if v=(cd,r) then 1 else 0:=by rw[mw,h,Option.toList,mN,Qb]
def S6(r:Int):∀M:List (Bool×Int),cE r M<=Y M
 |[]=>fE _
 |v::M=>by have:=S6 r M;rw[<-Dn,mN,Qb,IA,DM];split<;>omega
def aqO:List Nat:=[5,11]++(aA 22).map (· +58)
def axO(g:aB)(n0:Nat)(r:Int)(M:List (Bool×Int))(e:Env)(m:Nat)(a:Env)(b:aB):Prop:=
 ∃j:Nat,m=Y M-j/\j<=Y M/\aH aqO e a/\bz a 5 ((n0+cE r (M.take j):Nat):Int)/\bz a 11 j/\b=g
def Zk{L:SV}(S:bj cH g L.v M)(b:Y M<1000000)(b:n0<1000000000){r:Int}(X:bz e 1 r)(U:bz e 5 n0)(i:bX e 8=L.v)(N:bz e 11 0)(h:∀G,aH aqO e G->bz G 5 ((n0+cE r M:Nat):Int)->C (.exit 6) G g):aN FF (.loop ma) e g C:=by
 have q:L.l=Y M:=by have⟨a,z,e,_⟩:=id S;simp at e;exact e.2.1
 refine aN.loop (axO g n0 r M e) ?_ (n:=Y M) ⟨0,Q,J,aH.refl _ _,by simpa [cE,qk] using U,N,Q⟩;rintro m G p⟨j,rfl,d,Kp,u,D,rfl⟩;have b:=Kp.at (t:=1) X;have s:=Kp.at (t:=8) i;unfold ma;simp at s;rw[q] at s;by_cases o:j<Y M
 .have I:=bZ ((j:Int)+1) J J;have⟨v,p⟩:=aR M j o;have⟨X,y,x,A,_,_,O⟩:=S.read p;have E:=O 0 1 ai;have H:=O 1 1 ai;simp[-ay] at E H A;rw[A.1] at s;have F:=S6 r (M.take j);have f:Y (M.take j)<=j:=by simp;omega
  have⟨c,l⟩:∃c,c=n0+cE r (M.take j):=⟨_,Q⟩;rw[<-l] at u;have k:=bZ ((c:Int)+1) J J;have z:=aiG (r:=r) p;have⟨t,n⟩:=v;cases t
  .simp[s,D,o,E,I,-ay];refine⟨Y M-(j+1),J,j+1,Q,o,?_,by rw[z,bM ag,Jk,<-l];simp[u],ag,Q⟩
   exact au
  .by_cases e:n=r
   .subst e;simp[b,u,s,D,o,E,H,I,k,-ay];refine⟨Y M-(j+1),J,j+1,Q,o,?_,by rw[z,bH Q,<-DJ,<-l];simp,ag,Q⟩
    exact au
   .have T:(n==r)=b9:=by simp[e]
    simp[b,s,D,o,E,H,I,T,-ay];have y:cE r (M.take (j+1))=cE r (M.take j):=by rw[z,bM (av e),Jk]
    refine⟨Y M-(j+1),J,j+1,Q,o,?_,by rw[y,<-l];simp[u],ag,Q⟩
    exact au
 .have:j=Y M:=J
  subst this;rw[mI] at u;simp[s,D];refine h _ ?_ (av u)
  exact au
def VH(S:St n bs)(a:x∈bs):Y ([x.on]++x.list.flatMap fO)<=50000/\Y (Og x)<=90000:=by
 have g:=BR (f:=fO) (k:=102) (xs:=x.list) λy l=>by have:=zx y;have:=(S.x x a y l).2.1;omega
 have:Y x.list*102<=300*102:=Gd _ (S.ll a);have s:=BR (f:=λq:GP=>q.row) (k:=100) (xs:=x.aP) λq c=>by have⟨i,o⟩:=iF a;rw[S.E.rows i x o q c];have:=qP bs i;have:=S.E.n50;omega
 have:Y x.aP*100<=300*100:=Gd _ (S.p x a);unfold Og;simp only[IA,DM];omega
def VJ{n:Nat}{bs:List GB}(S:St n bs)(r:Int):∀m,qh bs r m<=m*90000
 |0=>kp _
 |m+1=>by have a:=VJ S r m;unfold qh;rcases h:bs[m]? with _|x;have:cE r (((K:Option GB).map Og).getD [])=0:=Q;omega;have g:=(VH S (cK h)).2;have c:=S6 r (Og x);simp only[zz,da];omega
def axS:List Nat:=[5,6,7,8,9,10,11]++(aA 68).map (· +12)
def axR(A:aB)(bs:List GB)(r:Int)(e:Env)(m:Nat)(a:Env)(b:aB):Prop:=
 ∃j:Nat,m=Y bs-j/\j<=Y bs/\aH axS e a/\bz a 5 ((qh bs r j:Nat):Int)/\bz a 6 j/\az aV A b
def Vk(N:cy O)(F:az aV O h){name:ByteArray}{p rg:Int}(t:mm O B bs)(S:St n bs)(r:Int):aY FF 168 [eU ⟨aC name p rg B⟩,dC ef r] h (λv a=>v=dC ef ((qh bs r (Y bs):Nat):Int)/\az aV h a):=by
 have f:=F.ok;have i:=ae.len t;have w:=S.E.n50;refine aY.of Es ?_;unfold vD;simp[aC];refine aN.cut (λg=>az aV h g/\c_ g h.ax (aC name p rg B)) ⟨(az.refl f).new _ _,⟨0,by simp[aC]⟩⟩ ?_;rintro g⟨f,E,w⟩;have k:=f.ok;simp[aC,i] at w
 suffices H:∀(e:Env)(i:bJ->Env->aB->Prop),bz e 1 r->cg e 2 h.ax->bz e 5 0->bz e 6 0->(∀d a,bz d 5 ((qh bs r (Y bs):Nat):Int)->az aV g a->i (.exit 0) d a)->aN FF (.loop me) e g i by refine H _ _ ag ag ag ag ?_;intro d a l b;simp[l];exact f.trans b
 intro e i U V i T C;refine aN.loop (axR g bs r e) ?_ (n:=Y bs) ⟨0,Q,J,aH.refl _ _,i,T,.refl k⟩;rintro m d a⟨j,rfl,T,Kp,T,i,b⟩;have W:=b.ok;have z:=(F.trans f).trans b;have q1:=Kp.at (t:=1) U;have U:=Kp.at (t:=2) V;have u:=b.get k w;unfold me;by_cases F:j<Y bs
 .have V:=bZ ((j:Int)+1) J J;have⟨x,d⟩:=aR bs j F;have f:=cK d;obtain⟨k,Dr,k,dY,_,_,⟨P,I,L,rfl,sP,X,k⟩,k,k⟩:=ae.later N t d;have w:=k a z 0 6 ai;simp[-ay] at w;rw[dY] at u;have⟨l1,k⟩:=VH S f;have k:=VJ S r j;simp[U,i,u,aD u,F,w,aJ,-ay];have w:az aV a (put (aM a [c6 K 0 0,c6 K 0 0,dC ef 0,dd b9,dC ef 0,c6 K 0 0] 0) a.ax 0 [c6 K 0 0,c6 K 0 0,dC ef 0,dd b9,dC ef 0,c6 K 0 0] [P.v,I.v,dC ef x.kind,dd x.on.1,dC ef x.on.2,L.v] 0):=(az.refl W).var _ _;refine aN.cut (λk=>∃c,az aV a c/\a.ax<c.ax/\(c_ c a.ax (P.v::I.v::[dC ef x.kind,dd x.on.1,dC ef x.on.2,L.v]))/\az aV c k/\c.ax=a.ax+1/\c_ k (a.ax+1) (cH.enc x.on)) ?_ ?_
  refine⟨_,w,ag,⟨a.clock,by simp[bg]⟩,(az.refl w.ok).new _ _,ag,⟨0,ag⟩⟩;rintro k⟨c,k,w,⟨D,L⟩,W,w,t⟩;rw[<-w] at t;refine adw N (z.trans k) W (L0:=⟨Z ⟨c.ax,0,K⟩,1,1⟩) X L (aeN t) ag (S.ll f) (λy X=>(S.x x f y X).2.1) ag (av w) ag ?_;intro G w w o w g4 X;have M:bX G 1=dC ef r:=o.at (aq q1);have t:bX G 5=dC ef ((qh bs r j:Nat):Int):=o.at (aq T);have s:bX G 6=dC ef j:=o.at (aq i);have W:cg G 7 a.ax:=o.at ag;simp;refine adx N (z.trans k) g4 sP L X l1 (S.p x f) (λq f=>by rw[S.E.rows j x d q f];have:=qP bs j;omega) (av W) (av w) ag ?_;intro l W W A w f W;have M:bX l 1=dC ef r:=A.at (aq M);have t:bX l 5=dC ef ((qh bs r j:Nat):Int):=A.at (aq t);have s:bX l 6=dC ef j:=A.at (aq s);simp;refine Zk (n0:=qh bs r j) (r:=r) W.sl (by show(Og x).length<1000000;omega) J (av M) (av t) (av w) ag ?_;intro W w t;have s:bX W 6=dC ef j:=w.at (aq s);simp[s,V];have V:qh bs r (j+1)=qh bs r j+cE r (Og x):=by show qh bs r j+cE r (((bs[j]?).map Og).getD [])=_;rw[d];rfl
  refine⟨Y bs-(j+1),J,j+1,Q,F,?_,by rw[V];simpa [Og] using t,ag,(b.trans k).trans f⟩
  repeat (refine aH.set ?_)
  refine aH.trans ?_ (w.cX)
  repeat (refine aH.set ?_)
  refine aH.trans ?_ (A.cX)
  repeat (refine aH.set ?_)
  refine aH.trans ?_ (o.cX)
  exact au
 .have:j=Y bs:=J
  subst this;simp[U,i,u,aD u,-ay];exact C _ _ (av T) b
def YC{b:Int}{p:GP}(h:ps[j]?=Z p)(a:aO pk b=k):mK pk b (ps.take (j+1))=mK pk b (ps.take j)++[(p.row[k]?).getD (b9,0)]:=by unfold mK;rw[a,bM J,bM J,mw,h,aW];rfl
def agD{b:Int}(h:aO pk b<0):mK pk b ps=[]:=bH h
def Pl(pk:List Int)(b:Int)(ps:List GP):Y (mK pk b ps)<=Y ps:=by unfold mK;split<;>simp
def alU:List Nat:=[7,10]++(aA 33).map (· +35)
def aqB(A:aB)(pk:List Int)(b:Int)(ps:List GP)(n0:Nat)(r:Int)(e:Env)(m:Nat)(a:Env)(c:aB):Prop:=
 ∃j:Nat,m=Y ps-j/\j<=Y ps/\aH alU e a/\bz a 7 ((n0+cE r (mK pk b (ps.take j)):Nat):Int)/\bz a 10 j/\c=A
def Vb(L:cy O)(T:az aV O A)(hB:mm O B bs)(a:dR A F (aC name p0 rg B) E)(hx:bs[t]?=Z x){b:Int}(w_:∀q∈x.aP,Y q.row=Y pk)(om:Y x.aP<=300)(hn:n0<1000000){r:Int}(f2:bz e 2 r)(f3:cg e 3 F)(f7:bz e 7 n0)(f8:bz e 8 t)(f9:bz e 9 (aO pk b))(f10:bz e 10 0)(y:∀d,aH alU e d->bz d 7 ((n0+cE r (mK pk b x.aP):Nat):Int)->C (.exit 2) d A):aN FF (.loop lS) e A C:=by
 have dq:=ae.len hB;have f:=(cR.mp hx).1;obtain⟨bB,Dr,cB,dY,_,_,⟨P,I,T',rfl,sP,sI,sT⟩,oB,cV⟩:=ae.later L hB hx;have G:=cV A T 0 1 ai;simp[-ay] at G;have U:=ae.len sP;simp[aC] at a;rw[dY,dq] at a;have e00:cE r (mK pk b (x.aP.take 0))=0:=by unfold mK;split<;>rfl
 refine aN.loop (aqB A pk b x.aP n0 r e) ?_ (n:=Y x.aP) ⟨0,Q,J,aH.refl _ _,by rw[e00];exact f7,f10,Q⟩;rintro m d N⟨j,rfl,hj,Kp,l,S,rfl⟩;have q2:=Kp.at (t:=2) f2;have H:=Kp.at (t:=3) f3;have M:=Kp.at (t:=8) f8;have s:=Kp.at (t:=9) f9;unfold lS;by_cases D:j<Y x.aP
 .have wj:=bZ ((j:Int)+1) J J;have⟨p,V⟩:=aR x.aP j D;by_cases hk0:aO pk b<0
  .have w:¬0<=aO pk b:=J
   rw[agD hk0] at l y;simp[H,M,s,S,a,aD a,f,G,U,D,w,-ay];refine y _ ?_ (av l)
   exact au
  have⟨k,hk⟩:∃k:Nat,aO pk b=k:=⟨(aO pk b).toNat,J⟩;have kj:k<Y pk:=by by_cases w:b∈pk;have⟨k2,g,_,X⟩:=j_ w;omega;have:=pG w;omega
  have my:=w_ p (cK V);have⟨v,hv⟩:=aR p.row k;obtain⟨bP,uV,cP,gy,_,_,⟨A',rfl,sA⟩,oP,pc⟩:=ae.later L sP V;have w:=pc N T 1 1 ai;obtain⟨bA,agK,cA,DK,_,_,rfl,oA,HC⟩:=ae.later L sA hv;have X:=HC N T 0 2 ai;have pD:=ae.len sA;simp[-ay] at w X;rw[DK,pD] at w;have u:k<Y p.row:=J
  have tk:=YC (pk:=pk) (b:=b) V hk;rw[hv,da] at tk;have hc:=S6 r (mK pk b (x.aP.take j));have IG:=Pl pk b (x.aP.take j);have hcl2:Y (x.aP.take j)<=j:=by simp;omega
  have⟨c,hcE⟩:∃c,c=n0+cE r (mK pk b (x.aP.take j)):=⟨_,Q⟩;rw[<-hcE] at l;have wc:=bZ ((c:Int)+1) J J;have W:=G;rw[gy,U] at W;rw[hk] at s;have⟨t,n⟩:=v;have tk2:=congrArg (cE r) tk;rw[mN,Qb] at tk2;have E':∀(z:Nat)(o:Env),z=c+(if(t,n)=(cd,r) then 1 else 0)->aH alU e o->bz o 7 (z:Nat)->bz o 10 ((j+1:Nat):Int)->∃m'<Y x.aP-j,aqB N pk b x.aP n0 r e m' o N:=λz o Ji k1 k2 k3=>⟨Y x.aP-(j+1),J,j+1,Q,D,k1,k2.trans (by congr 1;omega),k3,Q⟩;by_cases i:t=cd/\n=r
  .obtain⟨rfl,rfl⟩:=i;simp[q2,H,l,M,s,S,a,aD a,f,W,D,w,u,X,wj,wc,-ay];refine E' (c+1) _ ag ?_ ag ag
   exact au
  .have o:(t&&n==r)=b9:=by cases t;rfl;simp at i;simp[i]
   have e3:¬(t,n)=(cd,r):=λh=>i (by cases h;exact⟨Q,Q⟩);simp[q2,H,l,M,s,S,a,aD a,f,W,D,w,u,X,o,wj,-ay];refine E' c _ (by rw[bM e3];rfl) ?_ (av l) ag
   exact au
 .have:j=Y x.aP:=J
  subst this;rw[mI] at l;simp[H,M,s,S,a,aD a,f,G,U,-ay];refine y _ ?_ (av l)
  exact au
def UN{n:Nat}{bs:List GB}(S:St n bs)(b r:Int):∀m,qD bs b r m<=m*300
 |0=>kp _
 |m+1=>by have a:=UN S b r m;unfold qD;rcases h:bs[m]? with _|x;have:cE r (((K:Option GB).map λx=>mK (aI bs m) b x.aP).getD [])=0:=Q;omega;have g:=S.p x (cK h);have c:=S6 r (mK (aI bs m) b x.aP);have l:=Pl (aI bs m) b x.aP;simp only[zz,da];omega
def axj:List Nat:=[7,8,9,10]++(aA 45).map (· +23)
def axi(A:aB)(bs:List GB)(b:Int)(n0:Nat)(r:Int)(e:Env)(m:Nat)(a:Env)(c:aB):Prop:=
 ∃j:Nat,m=Y bs-j/\j<=Y bs/\aH axj e a/\bz a 7 ((n0+qD bs b r j:Nat):Int)/\bz a 8 j/\az aV A c
def Vc(k:cy O)(d:az aV O A)(G:mm O B bs)(S:St n bs)(f:dR A F (aC name p0 rg B) E){b:Int}(r:n0<=1){r:Int}(h:bz e 1 b)(t:bz e 2 r)(w:cg e 3 F)(i:bz e 7 n0)(p:bz e 8 0)(q:∀D c,bz D 7 ((n0+qD bs b r (Y bs):Nat):Int)->az aV A c->C (.exit 0) D c):aN FF (.loop iP) e A C:=by
 have pd:=d.ok;have H:=ae.len G;have z:=S.E.n50;refine aN.loop (axi A bs b n0 r e) ?_ (n:=Y bs) ⟨0,Q,J,aH.refl _ _,i,p,.refl pd⟩;rintro m D c⟨j,rfl,i,Kp,I,s,g⟩;have M:=g.ok;have i:=d.trans g;have p:=Kp.at (t:=1) h;have z:=Kp.at (t:=2) t;have d:=Kp.at (t:=3) w;have h:=g.get pd f;have l:=h;simp[aC] at l;unfold iP;by_cases f:j<Y bs
 .have t:=bZ ((j:Int)+1) J J;have⟨x,a⟩:=aR bs j f;have y:=cK a;have w:=UN S b r j;simp[d,s,l,aD l,f,H,-ay];refine bm.call (V:=λv o=>az aV c o/\∃L:SV,v=L.v/\bx encI c.ax o L.v (aI bs j)) (by simpa [aC,H] using tu M (name:=name) (p:=p0) (r:=rg) (G.mono k i) J (λx a=>aw (S.E.two a)) (j:Int)) ?_;rintro _ o⟨u,L,rfl,w⟩;have P:=qP bs j;simp[p];refine bm.call (V:=λv p=>p=o/\v=dC ef (aO (aI bs j) b)) (ak (pf w.sl J b)) ?_;rintro _ p⟨rfl,rfl⟩;have p:=u.get M h;simp;refine Vb k (i.trans u) G p a (pk:=aI bs j) (b:=b) (n0:=n0+qD bs b r j) (r:=r) (S.E.rows j x a) (S.p x y) J (av z) (av d) (av I) (av s) ag ag ?_;intro k N k;have i:=N.at (t:=8) (aq s);have h:qD bs b r (j+1)=qD bs b r j+cE r (mK (aI bs j) b x.aP):=by show qD bs b r j+cE r (((bs[j]?).map λx=>mK (aI bs j) b x.aP).getD [])=_;rw[a];rfl
  simp[i,t];refine⟨Y bs-(j+1),J,j+1,Q,f,?_,by rw[h,<-DJ];simpa using k,ag,g.trans u⟩
  repeat (refine aH.set ?_)
  refine aH.trans ?_ (N.cX)
  exact au
 .have:j=Y bs:=J
  subst this;simp[d,s,l,aD l,H,-ay];exact q _ _ (av I) g
def Y9(j:cy O)(d:az aV O h){name:ByteArray}{p0 rg:Int}(M:mm O B bs)(S:St n bs)(f:bs[b]?=Z x)(r:Int):aY FF 169 [eU ⟨aC name p0 rg B⟩,dC ef b,dC ef r] h (λv l=>v=dC ef ((cE r [x.on]+qD bs b r (Y bs):Nat):Int)/\az aV h l):=by
 have q:=d.ok;have w:=ae.len M;have i:=(cR.mp f).1;obtain⟨p,Dr,p,p,_,_,⟨P,I,T,rfl,k,k,k⟩,k,k⟩:=ae.later j M f;refine aY.of Ep ?_;unfold vB;have E:az aV h (aM h (aC name p0 rg B) 0):=(az.refl q).new _ _;have N:(aM h (aC name p0 rg B) 0).tr.get h.ax=Z (.ch (aC name p0 rg B) b9 0 0):=ag
 have s:=k _ (d.trans E) 3 2 ai;simp[-ay,aC] at s;generalize f:aM h (aC name p0 rg B) 0=g at*;have c:aM h [eT name,dC ef p0,dC ef rg,c6 B.a B.l B.c] 0=g:=f;rw[c] at s;have o:=N;simp[aC] at o;rw[p,w] at o;have u:=Qb r x.on;have⟨t,f⟩:∃t,t=x.on:=⟨_,Q⟩;rw[<-f] at u s⊢;have⟨t,m⟩:=t;have H:dR g h.ax (aC name p0 rg B) 0:=N;have a:∀(n0:Nat)(e:Env)(f:bJ->Env->aB->Prop),n0<=1->bz e 1 b->bz e 2 r->cg e 3 h.ax->bz e 7 n0->bz e 8 0->(∀D l,bz D 7 ((n0+qD bs b r (Y bs):Nat):Int)->az aV g l->f (.exit 0) D l)->aN FF (.loop iP) e g f:=λn0 e f q w f p a5 k C=>Vc j (d.trans E) M S H q w f p a5 k C;by_cases G:t=cd/\m=r
 obtain⟨rfl,rfl⟩:=G;rw[bH rfl] at u;have d:IntKind.i64.wrap 1=1:=bZ _ J J;simp[aC,c,o,aD o,i,s,d,-ay];refine a 1 _ _ J ag ag ag ag ag ?_;intro D l A d;simp[A,u];exact E.trans d
 .have f:(t&&m==r)=b9:=by cases t;rfl;simp at G;simp[G]
  have k:¬(t,m)=(cd,r):=λh=>G (by cases h;exact⟨Q,Q⟩);rw[bM k] at u;simp[aC,c,o,aD o,i,s,f,-ay];refine a 0 _ _ J ag ag ag ag ag ?_;intro D l A d;simp at A;simp[A,u];exact E.trans d
def TH{qs:List GP}(c:qs[j]?=Z q)(g:v=(cd,q.dst))(o:∀m z,m<j->qs[m]?=Z z->v≠(cd,z.dst)):kQ qs v=Z q:=by
 have l:=(cR.mp c).1;unfold kQ
 conv=>lhs;rw[<-ki j qs,fj l]
 have e:qs[j]'l=q:=by rw[iK l] at c;simpa using c
 have n:(qs.take j).find? (λq=>decide (v=(cd,q.dst)))=K:=oc.2 λz s=>by have⟨m,a⟩:=iF s;rw[F8] at a;split at a;simpa using o m z (by assumption) a;cases a
 rw[e,Ng,n,CD (ak g)];rfl
def TG{qs:List GP}(h:∀m z,m<Y qs->qs[m]?=Z z->v≠(cd,z.dst)):kQ qs v=K:=by unfold kQ;exact oc.2 λz c=>by have⟨m,a⟩:=iF c;simpa using h m z (cR.mp a).1 a
def aaS{qs:List GP}(h:∀m z,m<j->qs[m]?=Z z->v≠(cd,z.dst))(c:qs[j]?=Z q)(l:v≠(cd,q.dst)):∀m z,m<j+1->qs[m]?=Z z->v≠(cd,z.dst):=λm z o a=>by
 rcases Bb m j with g|g;exact h m z g a
 .have:m=j:=J
  subst this;rw[c] at a;cases a;exact l
def TD(v:Bool×Int)(d:Int):(v.1&&v.2==d)=decide (v=(cd,d)):=by have⟨t,n⟩:=v;cases t<;>simp[aay,instBEqOfDecidableEq]
def ax3:List Nat:=[5]++(aA 16).map (· +6)
def ax2(A:aB)(ps:List GP)(v:Bool×Int)(e:Env)(m:Nat)(a:Env)(b:aB):Prop:=
 ∃j:Nat,m=Y ps-j/\j<=Y ps/\aH ax3 e a/\bz a 5 j/\az aV A b/\∀m z,m<j->ps[m]?=Z z->v≠(cd,z.dst)
def Vm(k:cy O)(i:az aV O A)(N:ae (pR O) 2 O P.v ps)(r:Y ps<=300)(r:dR A X (P.v::s) D)(y:dR A V [dd v.1,dC ef v.2] sV)(q:cg e 2 X)(n:cg e 3 V)(b:bz e 5 0)(t:∀o c,bX o 4=dd cd->az aV A c->(kQ ps v).isSome=cd->C .ret o c)(x:∀o c,az aV A c->(kQ ps v).isSome=b9->C (.exit 0) o c):aN FF (.loop jf) e A C:=by
 have d:=ae.len N;have pd:=i.ok;refine aN.loop (ax2 A ps v e) ?_ (n:=Y ps) ⟨0,Q,J,aH.refl _ _,b,.refl pd,λm z h=>J⟩;rintro m o c⟨j,rfl,b,Kp,E,g,H⟩;have b:=g.ok;have M:=i.trans g;have i:=Kp.at (t:=2) q;have q:=Kp.at (t:=3) n;have a:=g.get pd r;have l:=g.get pd y;simp at a;rw[d] at a;have y:=b.bU a;have r:=b.bU l;unfold jf;by_cases d:j<Y ps
 .have S:=bZ ((j:Int)+1) J J;have⟨p,G⟩:=aR ps j d;obtain⟨n,uV,n,n,_,_,⟨f,rfl,f⟩,f,w⟩:=ae.later k N G;have I:=w c M 0 1 ai;simp[-ay] at I;rw[n] at a;have n:=M.bU f;have k:=TD v p.dst;simp[i,q,E,a,l,aD a,aD l,aK,y,r,n,d,I,-ay];by_cases u:v=(cd,p.dst)
  .have f:(v.1&&v.2==p.dst)=cd:=by rw[k];simpa using u
   simp[f];exact t _ _ ag (g.trans (bk b)) (by rw[TH G u H];rfl)
  .have f:(v.1&&v.2==p.dst)=b9:=by rw[k];simpa using u
   simp[f,E,S];refine⟨Y ps-(j+1),J,j+1,Q,d,?_,ag,g.trans (bk b),aaS H G u⟩
   exact au
 .have:j=Y ps:=J
  subst this;simp[i,E,a,aD a,-ay];exact x _ _ g (by rw[TG H];rfl)
def Vl(A:cy O)(b:az aV O h){P L T:SV}(d:ae (pR O) 2 O P.v ps)(u:Y ps<=300){kd:Int}{on:Bool×Int}(v:Bool×Int):aY FF 170 [eU ⟨[P.v,L.v,dC ef kd,dd on.1,dC ef on.2,T.v]⟩,eU ⟨[dd v.1,dC ef v.2]⟩] h (λr a=>r=dd (kQ ps v).isSome/\az aV h a):=by
 have o:=b.ok;have N:¬h.ax=h.ax+1:=J
 refine aY.of zT ?_;unfold pO;simp;refine aN.cut (λg=>az aV h g/\(c_ g h.ax (P.v::[L.v,dC ef kd,dd on.1,dC ef on.2,T.v]))/\c_ g (h.ax+1) [dd v.1,dC ef v.2]) ⟨((az.refl o).new _ _).new _ _,⟨0,av N⟩,⟨0,ag⟩⟩ ?_;rintro g⟨c,⟨D,G⟩,⟨sV,E⟩⟩;refine Vm A (b.trans c) d u G E ag ag ag ?_ ?_;intro C a s b l;simp[s,l];exact c.trans b;intro C a b l;simp[l];exact c.trans b
def TkL:List Nat:=[10]++(aA 37).map (· +16)
def TkI(A:aB)(ps:List GP)(v:Bool×Int)(e:Env)(m:Nat)(a:Env)(b:aB):Prop:=
 ∃j:Nat,m=Y ps-j/\j<=Y ps/\aH TkL e a/\bz a 10 j/\az aV A b/\∀m z,m<j->ps[m]?=Z z->v≠(cd,z.dst)
def Zg(i:cy O)(y:az aV O A)(r:mm O B bs)(t:dR A F (aC name p0 rg B) E)(hV:dR A V [dd v.1,dC ef v.2] sV)(hR:dR A R [dd b9,dC ef 0] H)(X:bs[b]?=Z x)(n:Y x.aP<=300)(w_:∀q∈x.aP,k<Y q.row)(n:bz e 1 b)(f4:cg e 4 F)(W:cg e 7 V)(f:cg e 8 R)(f9:bz e 9 k)(M:bz e 10 0)(C1:∀u a,cg u 8 R->az (· =R) A a->(c_ a R [dd (ia x.aP k v).1,dC ef (ia x.aP k v).2])->C .ret u a)(C2:∀u a,aH TkL e u->az aV A a->ia x.aP k v=v->C (.exit 0) u a):aN FF (.loop lZ) e A C:=by
 have dq:=ae.len r;have N:=(cR.mp X).1;obtain⟨L,Dr,L,L,_,_,⟨P,I,T,rfl,T,U,U⟩,oB,U⟩:=ae.later i r X;have X:=ae.len T;have pd:=y.ok;refine aN.loop (TkI A x.aP v e) ?_ (n:=Y x.aP) ⟨0,Q,J,aH.refl _ _,M,.refl pd,λm z h=>J⟩;rintro m u a⟨j,rfl,r,Kp,D,g,r⟩;have d:=g.ok;have o:=y.trans g;have y:=Kp.at (t:=1) n;have n:=Kp.at (t:=4) f4;have q7:=Kp.at (t:=7) W;have q8:=Kp.at (t:=8) f;have q9:=Kp.at (t:=9) f9;have c:=g.get pd t;have l:=g.get pd hV;have JA:=g.get pd hR;simp[aC] at c;rw[L,dq] at c;have s:=U a o 0 1 ai;simp[-ay] at s;have oF:=d.bU c;have oV:=d.bU l;have HU:=o.bU oB;unfold lZ;by_cases f:j<Y x.aP
 .have wj:=bZ ((j:Int)+1) J J;have⟨p,G⟩:=aR x.aP j f;have W:=w_ p (cK G);have⟨w,hw⟩:=aR p.row k W;obtain⟨U,uV,U,gy,_,_,⟨U,rfl,U⟩,oP,L⟩:=ae.later i T G;have T:=L a o 0 1 ai;have t:=L a o 1 1 ai;obtain⟨L,L,L,DK,_,_,rfl,oA,HC⟩:=ae.later i U hw;have L:=HC a o 0 2 ai;have i:=ae.len U;simp[-ay] at T t L;rw[DK,i] at t;rw[gy,X] at s;have Np:=o.bU oP;have O':=o.bU oA;have U:=TD v p.dst;simp[y,n,q7,D,c,l,aD c,aD l,aK,oF,oV,HU,Np,N,s,f,T,-ay];by_cases i:v=(cd,p.dst)
  .have S:(v.1&&v.2==p.dst)=cd:=by rw[U];simpa using i
   have T:ia x.aP k v=w:=by unfold ia;rw[TH G i r];simp[hw]
   rw[T] at C1;simp[S,y,n,q8,q9,D,c,aD c,aK,oF,HU,Np,O',N,s,f,t,W,L,JA,-ay];exact C1 _ _ (av q8) ((g.trans (bk d)).cr.trans (aX (bk d).ok (ak JA))) ⟨(tick a).clock,by simp[bg]⟩
  .have S:(v.1&&v.2==p.dst)=b9:=by rw[U];simpa using i
   simp[S,D,wj];refine⟨Y x.aP-(j+1),J,j+1,Q,f,?_,ag,g.trans (bk d),aaS r G i⟩
   exact au
 .have:j=Y x.aP:=J
  subst this;rw[X] at s;simp[y,n,D,c,aD c,N,s,-ay];refine C2 _ _ ?_ g (by unfold ia;rw[TG r];rfl)
  exact au
def UW{t:Int}(b:xs.Nodup)(h:xs[k]?=Z t):aO xs t=k:=by have⟨j,g,a,c⟩:=j_ (cK h);rw[g,(ga c b).1 (a.trans h.symm)]
def MG(I:cy O)(j:az aV O h){name:ByteArray}{p0 rg:Int}(i:mm O B bs)(S:St n bs)(A:bs[b]?=Z x)(m:(aI bs b)[k]?=Z (p:Int))(v:Bool×Int):aY FF 106 [eU ⟨aC name p0 rg B⟩,dC ef b,dC ef p,eU ⟨[dd v.1,dC ef v.2]⟩] h (λu f=>u=eU ⟨[dd (ia x.aP k v).1,dC ef (ia x.aP k v).2]⟩/\az aV h f):=by
 have w:=j.ok;have t:=S.E.n50;have t:=(cR.mp m).1;have N:¬h.ax=h.ax+1:=J
 have d:¬h.ax=h.ax+1+1:=J
 have r:¬h.ax+1=h.ax+1+1:=J
 refine aY.of Er ?_;unfold vC;simp[aC,N,d];refine bm.cut (λg=>az aV h g/\(c_ g h.ax (aC name p0 rg B))/\(c_ g (h.ax+1) [dd v.1,dC ef v.2])/\c_ g (h.ax+1+1) [dd b9,dC ef 0]) ⟨(((az.refl w).new _ _).new _ _).new _ _,⟨0,by simp[aC,N,d]⟩,⟨0,av r⟩,⟨0,ag⟩⟩ ?_;rintro g⟨l,⟨E,r⟩,⟨sV,y⟩,⟨H,w⟩⟩;have M:=j.trans l;refine bm.call (V:=λv C=>az aV g C/\∃L:SV,v=L.v/\bx encI g.ax C L.v (aI bs b)) (by simpa [aC] using tu l.ok (name:=name) (p:=p0) (r:=rg) (i.mono I M) J (λx A=>aw (S.E.two A)) (b:Int)) ?_;rintro _ C⟨a,L,rfl,d⟩;have j:=qP bs b;simp;refine bm.call (V:=λv j=>j=C/\v=dC ef (aO (aI bs b) p)) (ak (pf d.sl J (p:Int))) ?_;rintro _ j⟨rfl,rfl⟩;rw[UW (eC bs b) m];simp;have j:=l.trans a;have d:=a.get l.ok r;have o:=a.get l.ok y;have m:=a.get l.ok w;refine Zg I (M.trans a) i d o m A (S.p x (cK A)) (λq i=>by rw[S.E.rows b x A q i];exact t) ag ag ag ag ag ag ?_ ?_
 intro i f r d ⟨s,D⟩;simp[r,D];exact j.trans' d aj (λc w e=>J);intro i f Kp d t;have r:cg i 7 (h.ax+1):=Kp.at ag;have f:cg i 8 (h.ax+1+1):=Kp.at ag;have G:=d.get a.ok o;have D:=d.get a.ok m;rw[t];simp[r,f,G,D,bg];exact(j.trans d).trans' (aX d.ok D) aj (λc w e=>J)
def ae.ch{d:Type}{R:List aa->d->Prop}{sz:Nat}{h:aB}{L:SV}{xs:List d}(f:ae R sz h L.v xs){b d:Nat}(C:L.a=Z ⟨b,d,K⟩)(A:xs≠[]):∃s c o d,h.tr.get b=Z (.ch s c o d):=by obtain⟨a,D,e,⟨u,_⟩|⟨E,G,s,c,o,d,rfl,l,_⟩⟩:=f;exact absurd u A;simp at e;rw[C] at e;simp at e;rw[<-e.1.1] at l;exact⟨_,_,_,_,l⟩
def aqC:List Nat:=[8]++(aA 25).map (· +35)
def axl(A:aB)(bs:List GB)(b:Nat)(ps:List GP)(e:Env)(m:Nat)(a:Env)(c:aB):Prop:=
 ∃j:Nat,m=Y ps-j/\j<=Y ps/\aH aqC e a/\bz a 8 j/\az aV A c/\∀m z,m<j->ps[m]?=Z z->(cd,z.dst)∉pZ bs b (Y bs)
def Ze(G:cy O)(g0:az aV O A)(hB:mm O B bs)(S:St n bs)(hF:dR A F (aC name p0 rg B) E)(L:bs[b]?=Z x)(y:ae (pR O) 2 O P.v x.aP)(hX:dR A X (P.v::s) D)(f2:bz e 2 b)(f3:cg e 3 F)(f7:cg e 7 X)(f8:bz e 8 0)(C1:∀i o,bz i 6 (-1)->az aV A o->(∃q∈x.aP,(cd,q.dst)∈pZ bs b (Y bs))->C .ret i o)(C2:∀i o,aH aqC e i->az aV A o->(∀q∈x.aP,(cd,q.dst)∉pZ bs b (Y bs))->C (.exit 0) i o):aN FF (.loop iZ) e A C:=by
 have fe:=ae.len y;have pd:=g0.ok;have om:=S.p x (cK L);have yf:=S.E.n50;refine aN.loop (axl A bs b x.aP e) ?_ (n:=Y x.aP) ⟨0,Q,J,aH.refl _ _,f8,.refl pd,λm z h=>J⟩;rintro m i o⟨j,rfl,hj,Kp,W,d,hn⟩;have u:=d.ok;have N:=g0.trans d;have q2:=Kp.at (t:=2) f2;have q3:=Kp.at (t:=3) f3;have q7:=Kp.at (t:=7) f7;have f:=d.get pd hF;have l:=d.get pd hX;have sF':=u.st _ _ _ _ _ f;have RU:=u.st _ _ _ _ _ l;simp[aC] at f;simp at l;rw[fe] at l;have oF:=u.bU f;have oX:=u.bU l;unfold iZ;by_cases k:j<Y x.aP
 .have wj:=bZ ((j:Int)+1) J J;have⟨q,I⟩:=aR x.aP j k;obtain⟨bP,uV,cP,gy,hPw,_,⟨A',rfl,sA⟩,oP,pc⟩:=ae.later G y I;have r1:=pc o N 0 1 ai;simp[-ay] at r1;rw[gy] at l;have Np:=N.bU oP;simp[q2,q3,q7,W,f,l,aD f,aD l,aK,oF,oX,Np,k,r1,-ay];have⟨Jv,roP,oPP,H,t⟩:=ae.ch y gy (λe=>by rw[e] at k;simp at k);have auP:=G.st _ _ _ _ _ t;have cl:=N.clock;refine ck.cut (λU=>az aV o U) (bk u) ?_;rintro U g2;have iL:=N.trans g2;refine ck.call (V:=λv r=>v=dC ef ((qh bs q.dst (Y bs):Nat):Int)/\az aV U r) (by simpa [aC] using Vk G iL (name:=name) (p:=p0) (rg:=rg) hB S q.dst) ?_;rintro _ r⟨rfl,g3⟩;have p:=g2.trans g3;have oh:=p.get u f;have dZ:=p.get u l;have Y':r.tr.get bP=Z (.ch Jv roP oPP H):=by rw[(N.trans p).same bP (G.wf _ _ t) (λh=>h)];exact t
  have s1:H<=o.clock:=J
  simp[q3,oh,dZ,Y',sF',RU,s1];refine ck.call (V:=λv h4=>v=dC ef ((cE q.dst [x.on]+qD bs b q.dst (Y bs):Nat):Int)/\az aV r h4) (by simpa [aC] using Y9 G (iL.trans g3) (name:=name) (p0:=p0) (rg:=rg) hB S L q.dst) ?_;rintro _ h4⟨rfl,g4⟩;have M:=p.trans g4;have off:=ahM S L q.dst;by_cases V:qh bs q.dst (Y bs)=cE q.dst [x.on]+qD bs b q.dst (Y bs)
  .rw[V];simp[W,wj];refine⟨Y x.aP-(j+1),J,j+1,Q,k,?_,ag,d.trans M,λm z T w=>?_⟩
   .exact au
   .rcases Bb m j with g|g;exact hn m z g w
    .have:m=j:=J
     subst this;rw[I] at w;cases w;exact off.1 V
  .have w:(((qh bs q.dst (Y bs):Nat):Int) !=((cE q.dst [x.on]+qD bs b q.dst (Y bs):Nat):Int))=cd:=by simp;omega
   have⟨a,ea⟩:∃a:Int,a=((qh bs q.dst (Y bs):Nat):Int):=⟨_,Q⟩;have⟨c,ec⟩:∃a:Int,a=((cE q.dst [x.on]+qD bs b q.dst (Y bs):Nat):Int):=⟨_,Q⟩;rw[<-ea,<-ec] at w⊢;simp[w];exact C1 _ _ ag (d.trans M) ⟨q,cK I,Classical.byContradiction λh=>V (off.2 h)⟩
 .have:j=Y x.aP:=J
  subst this;simp[q7,W,l,aD l,-ay];refine C2 _ _ ?_ d λq I=>?_
  .exact au
  have⟨m,T⟩:=iF I;exact hn m q (cR.mp T).1 T
def akE(bs:List GB)(b k p:Nat)(v:aa):Prop:=(∃(t:Nat) (x:GB),v=dC ef t/\eB bs b k p t x)\/(v=dC ef (-1)/\∀t x,¬eB bs b k p t x)
def Zd(cS:cy O)(X:az aV O h){name:ByteArray}{p0 rg:Int}(hB:mm O B bs)(S:St n bs)(C:bs[b]?=Z x)(hp:(aI bs b)[k]?=Z (p:Int)):aY FF 105 [eU ⟨aC name p0 rg B⟩,dC ef p,dC ef b] h (λv f=>az aV h f/\akE bs b k p v):=by
 have z:=X.ok;have V:=S.E;have m:=V.n50;have j:=cK C;have T:=ae.len hB;have U:=(cR.mp C).1;obtain⟨F,Dr,i,F,_,_,⟨P,I,T',rfl,sP,i,sT⟩,W,d⟩:=ae.later cS hB C;have hIl:=ae.len i;have mR:=ae.len sT;have N:¬h.ax=h.ax+1:=J
 have m:=X.bU W;have no:∀t c,eB bs b k p t c->c=x:=λt c w=>by have g:=w.hx;rw[C] at g;exact(bI g).symm
 have W:=d h X 0 6 ai;simp[-ay] at W;refine aY.of zR ?_;unfold pM;simp[aC,F,T,U,N,W,m,bh,dO,-ay];refine bm.cut (λg=>az aV h g/\(c_ g h.ax (aC name p0 rg B))/\c_ g (h.ax+1) (P.v::[I.v,dC ef x.kind,dd x.on.1,dC ef x.on.2,T'.v])) ?_ ?_;exact⟨((az.refl z).new _ _).var _ _,⟨0,by simp[aC,N,F,T]⟩,⟨h.clock,by simp[bg]⟩⟩;rintro g⟨T,⟨E,U⟩,⟨D,z⟩⟩;have eY:=T.ok;have m:=z;simp at m;rw[hIl] at m;have i:IntKind.i64.wrap 1=1:=bZ _ J J;by_cases Jh:b=0
 subst Jh;simp;exact⟨T,ft ⟨Q,λt c w=>w.b0 Q⟩⟩;have W:((b:Int)==0)=b9:=by simp;omega
 by_cases hpb:p=b
 .have d:((p:Int)==(b:Int))=cd:=by simp[hpb]
  simp[W,d];exact⟨T,ft ⟨Q,λt c w=>w.pb hpb⟩⟩
 have d:((p:Int)==(b:Int))=b9:=by simp;omega
 by_cases A:¬x.list=[];have F:0<Y x.list:=HQ.2 A;simp[W,d,m,aD m,F,-ay];exact⟨T,ft ⟨Q,λt c w=>A (by rw[<-no t c w];exact w.em)⟩⟩;have A:=Di.1 A;have r:¬0<Y x.list:=by rw[A];simp
 by_cases hk1:x.kind=1
 .have i:(x.kind==1)=cd:=by simp[hk1]
  simp[W,d,i,m,aD m,r,-ay];refine⟨T,ft ⟨Q,λt c w=>?_⟩⟩;have g:=w.lt;rw[no t c w] at g;unfold iq at g;rw[bM J,bM J] at g;omega
 have i:(x.kind==1)=b9:=by simp[hk1]
 simp[W,d,i,m,aD m,r,-ay];refine Ze cS (X.trans T) hB S U C sP z ag ag ag ag ?_ ?_;intro F f l r ⟨q,W,d⟩;simp[l];exact⟨T.trans r,ft ⟨Q,λt c w=>(by rw[no t c w] at w;exact w.no q W d)⟩⟩;intro i h2 d g2 hnu;have W:bX i 1=dC ef p:=d.at ag;have r:bX i 2=dC ef b:=d.at ag;have z:cg i 3 h.ax:=d.at ag;have k7:cg i 7 (h.ax+1):=d.at ag;have iL:=T.trans g2;have Jx:=X.trans iL;have zC:=g2.ok;have e_:=g2.get eY U;have U:=g2.get eY m;have d:(x.kind=2/\∃t,x.to=[t])\/(x.kind=3/\∃t u,x.to=[t,u]/\t≠u):=by rcases V.kind x j with⟨a,_⟩|a|a;exact absurd a hk1;exact fc a;exact ft a
 have⟨T,i⟩:∃T,x.to[0]?=Z T:=by rcases d with⟨_,t,e⟩|⟨_,t,u,e,_⟩<;>exact⟨t,by rw[e];rfl⟩
 have OT:bj encI h2 T'.v x.to:=(LR sT).cr cS Jx;obtain⟨X,X,X,Gf,_,_,X⟩:=OT.read i;have m:=X 0 1 ai;simp[-ay] at m Gf;have X:0<Y x.to:=(cR.mp i).1;rw[Gf.1,mR] at U;simp[k7,U,aD U,X,m,-ay];refine aN.mono (Q1:=λy F f=>az aV h2 f/\((y=.ret/\bz F 6 (-1)/\∀t:Nat,iq x k≠t)\/(y=.normal/\bz F 1 p/\bz F 2 b/\cg F 3 h.ax/\∃t:Nat,iq x k=t/\bz F 9 t))) ?_ ?_
 .rcases d with⟨a,t,e⟩|⟨a,t,u,e,_⟩
  .have d:(x.kind==3)=b9:=by simp[a]
   have et:T=t:=by rw[e] at i;simpa using i.symm
   have tb:=V.to x j t (by rw[e];simp);obtain⟨t,rfl⟩:∃n:Nat,t=n:=⟨t.toNat,J⟩;simp[d];exact⟨.refl zC,av W,av r,av z,t,by unfold iq;rw[bH a,e];rfl,av et⟩
  .have d:(x.kind==3)=cd:=by simp[a]
   have et:T=t:=by rw[e] at i;simpa using i.symm
   have tb:=V.to x j t (by rw[e];simp);have F:=V.to x j u (by rw[e];simp);obtain⟨t,rfl⟩:∃n:Nat,t=n:=⟨t.toNat,J⟩;obtain⟨u,rfl⟩:∃n:Nat,u=n:=⟨u.toNat,J⟩;have m:=e_;simp[aC] at m;simp[d,W,r,z,k7,m,U,aD m,aD U,-ay];refine bm.call (V:=λv m=>v=eU ⟨[dd (ia x.aP k x.on).1,dC ef (ia x.aP k x.on).2]⟩/\az aV h2 m) (by simpa [aC] using MG cS Jx (name:=name) (p0:=p0) (rg:=rg) hB S C hp x.on) ?_;rintro _ m⟨rfl,X⟩;have⟨w,ew⟩:∃w,w=ia x.aP k x.on:=⟨_,Q⟩;rw[<-ew];have hc:(w.1==x.on.1&&w.2==x.on.2)=decide (w=x.on):=by have⟨f,T⟩:=w;obtain⟨F,F⟩:=x.on;simp[aay,instBEqOfDecidableEq]
   have F:=X.get zC U;have i:=X.ok.bU F;have T:¬m.ax=h.ax+1:=aw i.lt
   have f:¬h.ax+1=m.ax:=λe=>T e.symm;simp[k7,F,aD F,aJ,cw,bh,T,f,i,-ay];refine bm.cut (λi=>az aV m i/\c_ i m.ax [dd w.1,dC ef w.2]) ⟨(az.refl X.ok).var _ _,⟨m.clock,by simp[bg]⟩⟩ ?_;rintro i⟨H,sV,s⟩;have o:=X.trans H;have m:=H.get X.ok F;have X:=s;have U:iq x k=(kQ x.aP x.on).elim (-1) λq=>if((q.row[k]?).getD (b9,0)).1=cd then-1 else(x.to[if((q.row[k]?).getD (b9,0)).2=0 then 1 else 0]?).getD 0:=by unfold iq;rw[bM J,bH a]
   have Wr:=Vl cS (Jx.trans o) (L:=I) (T:=T') (kd:=x.kind) (on:=x.on) sP (S.p x j) w;rcases F:kQ x.aP x.on with _|q
   .have f:w=x.on:=by rw[ew];unfold ia;rw[F];rfl
    have l:(w.1==x.on.1&&w.2==x.on.2)=cd:=by rw[hc];simpa using f
    simp[l,k7,m,s,aD m,aD s,-ay];refine bm.call (V:=λr' G=>r'=dd (kQ x.aP w).isSome/\az aV i G) (by simpa [hIl,mR,Gf.1] using Wr) ?_;rintro _ G⟨rfl,T⟩;have d:(kQ x.aP w).isSome=b9:=by rw[f,F];rfl
    simp[d];exact⟨o.trans T,λt h=>by rw[U,F] at h;simp at h⟩
   .have EN:=lk F;have hqd:x.on=(cd,q.dst):=ak (List.find?_some F)
    have⟨w',X⟩:∃w',q.row[k]?=Z w':=⟨_,iK (by rw[V.rows b x C q EN];exact(cR.mp hp).1)⟩;have f:w=w':=by rw[ew];unfold ia;rw[F];simp[X]
    rw[<-f] at X;rw[F] at U;simp only[xb,X,da] at U;by_cases e8:w=x.on
    .have l:(w.1==x.on.1&&w.2==x.on.2)=cd:=by rw[hc];simpa using e8
     have X:w.1=cd:=by rw[e8,hqd]
     simp[l,k7,m,s,aD m,aD s,-ay];refine bm.call (V:=λr' G=>r'=dd (kQ x.aP w).isSome/\az aV i G) (by simpa [hIl,mR,Gf.1] using Wr) ?_;rintro _ G⟨rfl,T⟩;have d:(kQ x.aP w).isSome=cd:=by rw[e8,F];rfl
     have F:=T.get H.ok s;simp[d,X,F,aD F,-ay];exact⟨o.trans T,λt h=>by rw[U,bH X] at h;omega⟩
    .have l:(w.1==x.on.1&&w.2==x.on.2)=b9:=by rw[hc];simpa using e8
     rcases(by cases w.1<;>simp:w.1=cd\/w.1=b9) with X|X;rw[X] at s;simp[l,s,aD s,-ay];exact⟨o,λt h=>by rw[U,bH X] at h;omega⟩
     .rw[X] at s;rw[bM (av X)] at U;by_cases F:w.2=0
      .rw[F] at s;rw[bH F,e] at U;obtain⟨X,X,X,X,_,_,Lj⟩:=(OT.cr zC o).read (i:=1) (x:=(u:Int)) (by rw[e];rfl);have ru:=Lj 0 1 ai;simp[-ay] at ru X;rw[Gf.1] at X;simp at X;have⟨⟨e11,e12⟩,e13⟩:=X;subst e11 e12;have X:1<Y x.to:=by rw[e];simp
       simp[l,k7,m,s,aD m,aD s,X,ru,-ay];exact⟨o,av W,av r,av z,u,by rw[U];rfl,Q⟩
      .have e11:(w.2==0)=b9:=by simp[F]
       rw[bM F,e] at U;simp[l,e11,s,aD s,-ay];exact⟨o,av W,av r,av z,t,by rw[U];rfl,av et⟩
 .rintro y m i⟨H,⟨rfl,l,X⟩|⟨rfl,W,r,z,t,U,m⟩⟩;simp[l];exact⟨iL.trans H,ft ⟨Q,λt c w=>X t (by have:=w.lt;rw[no t c w] at this;exact this)⟩⟩
  .have X:=LB V j U;have tb:=V.to x j t X;have F:∀(M:Nat)(c:GB),eB bs b k p M c->M=t:=λM c w=>by have:=w.lt;rw[no M c w] at this;omega
   by_cases f:t=b
   .have l:((t:Int)==(b:Int))=cd:=by simp[f]
    simp[W,r,z,m,l];exact⟨iL.trans H,ft ⟨Q,λM c w=>w.tb (by rw[F M c w];exact f)⟩⟩
   have l:((t:Int)==(b:Int))=b9:=by simp;omega
   have j:=H.get zC e_;have X:=j;simp[aC] at X;simp[W,r,z,m,l,X,aD X,-ay];refine bm.call (V:=λv G=>az aV i G/\∃L:SV,v=L.v/\bx encI i.ax G L.v (aI bs t)) (by simpa [aC] using tu H.ok (name:=name) (p:=p0) (r:=rg) (hB.mono cS (Jx.trans H)) J (λx C=>aw (V.two C)) (t:Int)) ?_;rintro _ G⟨T,L,rfl,X⟩;have V:=qP bs t;simp[W];refine bm.call (V:=λv V=>V=G/\v=dd (decide ((p:Int)∈aI bs t))) (ak (BT X.sl J (p:Int))) ?_;rintro _ V⟨rfl,rfl⟩;have j:=(iL.trans H).trans T;by_cases d:(p:Int)∈aI bs t
   simp[d];exact⟨j,ft ⟨Q,λM c w=>by have:=F M c w;subst this;exact w.pt d⟩⟩;simp[d,m];exact⟨j,fc ⟨t,x,Q,⟨C,Jh,A,hnu,U,hp,f,hpb,d⟩⟩⟩
def ZT(bs:List GB)(h:aB)(v:aa)(a:aB):Prop:=
 az aV h a/\((∃(b k p t:Nat) (x:GB),v=eU ⟨[dC ef p,dC ef b,dC ef t]⟩/\SJ bs b k p t x)\/(v=eU ⟨[dC ef (-1),dC ef (-1),dC ef (-1)]⟩/\Z6 bs))
def aqr:List Nat:=[4,5]++(aA 27).map (· +13)
def awU(A:aB)(bs:List GB)(b:Nat)(e:Env)(m:Nat)(a:Env)(c:aB):Prop:=
 ∃j:Nat,m=Y bs-j/\j<=Y bs/\aH aqr e a/\bz a 4 j/\az aV A c/\∀k p t x,p<j->¬eB bs b k p t x
def RI(M:cy O)(g0:az aV O A)(hB:mm O B bs)(S:St n bs)(hF:dR A F (aC name p0 rg B) E)(hR:dR A R [dC ef 0,dC ef 0,dC ef 0] H)(hb:b<Y bs)(f1:cg e 1 F)(f2:cg e 2 R)(f3:bz e 3 b)(f4:bz e 4 0)(C1:∀o a k p t x,cg o 2 R->az (· =R) A a->(c_ a R [dC ef (p:Nat),dC ef b,dC ef (t:Nat)])->eB bs b k p t x->(∀c X i D,c<k->¬eB bs b c X i D)->C .ret o a)(C2:∀o a,aH aqr e o->az aV A a->(∀k p t x,¬eB bs b k p t x)->C (.exit 2) o a):aN FF (.loop iX) e A C:=by
 have dq:=ae.len hB;have pd:=g0.ok;have yf:=S.E.n50;have⟨x,hx⟩:=aR bs b hb;refine aN.loop (awU A bs b e) ?_ (n:=Y bs) ⟨0,Q,J,aH.refl _ _,f4,.refl pd,λk p t x h=>J⟩;rintro m o a⟨j,rfl,hj,Kp,l,d,V⟩;have bC:=d.ok;have W:=g0.trans d;have T:=Kp.at (t:=1) f1;have q2:=Kp.at (t:=2) f2;have f:=Kp.at (t:=3) f3;have gM:=d.get pd hF;have s:=gM;simp[aC] at s;unfold iX;by_cases q:j<Y bs
 .have wj:=bZ ((j:Int)+1) J J;have⟨y,G⟩:=aR bs j q;obtain⟨bB,Dr,cB,dY,_,_,⟨P,I',T',rfl,sP,sI,sT⟩,oB,cV⟩:=ae.later M hB G;have rT:=cV a W 5 1 ai;simp[-ay] at rT;have L:=s;rw[dY,dq] at L;have OT:bj encI a T'.v y.to:=(LR sT).cr M W;have two:=S.E.two (cK G);have next:(∀k t x,¬eB bs b k j t x)->∀k p t x,p<j+1->¬eB bs b k p t x:=λh k p t x hp=>by
   rcases Bb p j with g|g;exact V k p t x g
   .have:p=j:=J
    subst this;exact h k t x
  simp[T,f,l,L,aD L,q,rT,-ay];refine bm.call (V:=λv u=>u=a/\v=dd (decide ((b:Int)∈y.to))) (by simpa [f] using BT OT J (b:Int)) ?_;rintro _ u⟨rfl,rfl⟩;by_cases z:(b:Int)∈y.to
  .have⟨k,N⟩:=iF (cu.2 ⟨j,Q,y,G,z⟩:(j:Int)∈aI bs b);simp[z,T,f,l,s,aD s,-ay];refine bm.call (V:=λv U=>az aV u U/\akE bs b k j v) (by simpa [aC,f,l] using Zd M W (name:=name) (p0:=p0) (rg:=rg) hB S hx N) ?_;rintro _ U⟨r,hc⟩;have same:∀ {c i:Nat} {D:GB},eB bs b c j i D->c=k:=λw=>(ga (cR.mp w.hp).1 (eC bs b)).1 (w.hp.trans N.symm);rcases hc with⟨t,D,rfl,Wy⟩|⟨rfl,Hy⟩
   .have xG:=(d.trans r).get pd hR;have t0:decide ((0:Int)<=(t:Int))=cd:=ag
    simp[q2,f,l,xG,bg];refine C1 _ _ k j t D (av q2) ((d.trans r).cr.trans (aX r.ok xG)) ⟨U.clock,ag⟩ Wy λc X i x2 Bf w=>?_;refine V c X i x2 ?_ w;have a1:=cR.mp w.hp;have a2:=cR.mp N;have:=gY.1 (fF bs b) c k a1.1 a2.1 Bf;rw[a1.2,a2.2] at this;omega
   .simp[l,wj];refine⟨Y bs-(j+1),J,j+1,Q,q,?_,ag,d.trans r,next λc t x w=>?_⟩
    .exact au
    have:=same w;subst this;exact Hy t x w
  .simp[z,l,wj];refine⟨Y bs-(j+1),J,j+1,Q,q,?_,ag,d,next λk t x w=>?_⟩
   .exact au
   have⟨I,g,u⟩:=w.pm;rw[G] at g;cases g;exact z u
 .have:j=Y bs:=J
  subst this;simp[T,l,s,aD s,dq,-ay];refine C2 _ _ ?_ d λk p t x w=>?_
  .exact au
  have⟨I,g,_⟩:=w.pm;exact V k p t x (cR.mp g).1 w
def aqs:List Nat:=[3,4,5]++(aA 34).map (· +6)
def awV(A:aB)(bs:List GB)(e:Env)(m:Nat)(a:Env)(c:aB):Prop:=
 ∃j:Nat,m=Y bs-j/\j<=Y bs/\aH aqs e a/\bz a 3 j/\az aV A c/\∀b k p t x,b<j->¬eB bs b k p t x
def RJ(L:cy O)(T:az aV O A)(I:mm O B bs)(S:St n bs)(P:dR A F (aC name p0 rg B) E)(U:dR A R [dC ef 0,dC ef 0,dC ef 0] H)(y:cg e 1 F)(r:cg e 2 R)(z:bz e 3 0)(X:∀c a b k p t x,cg c 2 R->az (· =R) A a->(c_ a R [dC ef (p:Nat),dC ef (b:Nat),dC ef (t:Nat)])->SJ bs b k p t x->C .ret c a)(N:∀c a,aH aqs e c->az aV A a->Z6 bs->C (.exit 0) c a):aN FF (.loop iY) e A C:=by
 have i:=ae.len I;have pd:=T.ok;have f:=S.E.n50;refine aN.loop (awV A bs e) ?_ (n:=Y bs) ⟨0,Q,J,aH.refl _ _,z,.refl pd,λb k p t x h=>J⟩;rintro m c a⟨j,rfl,v,Kp,o,f,D⟩;have W:=f.ok;have d:=Kp.at (t:=1) y;have W:=Kp.at (t:=2) r;have M:=f.get pd P;have q:=f.get pd U;have l:=M;simp[aC] at l;unfold iY;by_cases u:j<Y bs
 .have P:=bZ ((j:Int)+1) J J;simp[d,o,l,aD l,i,u,-ay];refine RI L (T.trans f) I S M q u (av d) (av W) (av o) ag ?_ ?_;intro v T k p t x L s r V y;simp;exact X v T j k p t x L (f.cr.trans s) r ⟨V,D,y⟩
  .intro v T G s U;have X:=G.at (t:=3) (aq o);simp[X,P];refine⟨Y bs-(j+1),J,j+1,Q,u,?_,ag,f.trans s,λb k p t x y=>?_⟩
   .repeat (refine aH.set ?_)
    refine aH.trans ?_ (G.cX)
    exact au
   .rcases Bb b j with g|g;exact D b k p t x g
    .have:b=j:=J
     subst this;exact U k p t x
 .have:j=Y bs:=J
  subst this;simp[d,o,l,aD l,i,-ay];refine N _ _ ?_ f λb k p t x w=>D b k p t x (cR.mp w.hx).1 w
  exact au
def U8(G:cy O)(d:az aV O h){name:ByteArray}{p0 rg:Int}(i:mm O B bs)(S:St n bs):aY FF 50 [eU ⟨aC name p0 rg B⟩] h (ZT bs h):=by
 have D:=d.ok;have N:¬h.ax=h.ax+1:=J
 refine aY.of zQ ?_;unfold pL;simp[aC];refine aN.cut (λg=>az aV h g/\(c_ g h.ax (aC name p0 rg B))/\c_ g (h.ax+1) [dC ef 0,dC ef 0,dC ef 0]) ⟨((az.refl D).new _ _).new _ _,⟨0,by simp[aC,N]⟩,⟨0,ag⟩⟩ ?_;rintro g⟨l,⟨E,f⟩,⟨H,o⟩⟩;refine RJ G (d.trans l) i S f o ag ag ag ?_ ?_;intro u C b k p t x I d ⟨s,a⟩ W;simp[I,a];exact⟨l.trans' d aj (λc i e=>J),fc ⟨b,k,p,t,x,Q,W⟩⟩;intro u C Kp d f;have A:cg u 2 (h.ax+1):=Kp.at ag;have a:=d.get l.ok o;simp[A,a,bg];exact⟨(l.trans d).trans' (aX d.ok a) aj (λc i e=>J),ft ⟨Q,f⟩⟩
def axH:List Nat:=[8]++(aA 31).map (· +43)
def axI:List Nat:=[7,8]++(aA 31).map (· +43)
def axG(A:aB)(b:Int)(a:List (Int×(Bool×Int)))(e:Env)(m:Nat)(c:Env)(d:aB):Prop:=
 ∃j:Nat,m=Y a-j/\j<=Y a/\aH axH e c/\bz c 8 j/\az aV A d/\∀m x,m<j->a[m]?=Z x->x.1≠b
def ahi(cS:cy O)(g0:az aV O A)(hB:mm O B bs)(S:St n bs)(hF:dR A F (aC name p0 rg B) E)(hX:dR A X [dC ef p,dC ef b,dC ef t] D)(hx:bs[b]?=Z x)(hp:(aI bs b)[k]?=Z (p:Int)){L:SV}(H:bx fG N A L.v a)(jP:Y a<100000)(P:a[i]?=Z ((b:Int),v))(Ab:∀m y,m<i->a[m]?=Z y->y.1≠(b:Int))(hn1:N<=A.ax)(f2:cg e 2 F)(f3:cg e 3 X)(f7:bX e 7=L.v)(f8:bz e 8 0)(C':∀w s (q:SV),aH axI e w->bX w 7=q.v->az (bD L.v) A s->bx fG N s q.v (a++[((p:Int),ia x.aP k v)])->C (.exit 2) w s):aN FF (.loop jd) e A C:=by
 have pd:=g0.ok;have hE:=H.sl;have G:L.l=Y a:=by have⟨d,V,e,_⟩:=id hE;simp at e;exact e.2.1
 have dW:=(cR.mp P).1;refine aN.loop (axG A b a e) ?_ (n:=Y a) ⟨0,Q,J,aH.refl _ _,f8,.refl pd,λm x h=>J⟩;rintro m w s⟨j,rfl,hj,Kp,q8,d,hn⟩;have l:=d.ok;have gg:=g0.trans d;have q2:=Kp.at (t:=2) f2;have V:=Kp.at (t:=3) f3;have f:=Kp.at (t:=7) f7;have gM:=d.get pd hF;have o:=d.get pd hX;have RU:=l.st _ _ _ _ _ o;have oF:=l.bU gM;have oX:=l.bU o;have e_:=gM;simp[aC] at e_;simp at f;rw[G] at f;unfold jd;have M:j<Y a:=by rcases Bb j (Y a) with h|h;exact h;exact absurd rfl (hn i _ J P)
 have wj:=bZ ((j:Int)+1) J J;have⟨y,I⟩:=aR a j M;have jn:=H.grow pd d aj;have⟨bE,aoc,al2,A',_,⟨cE',roE,oE,stE,hEb⟩,cV⟩:=jn.sl.read I;have U:=cV 0 1 ai;have r1:=cV 1 2 ai;simp[-ay] at U r1 A';rw[A'.1] at f;have J':Old bE s:=l.wf _ _ hEb;by_cases e1:y.1=(b:Int)
 .have ej:j=i:=by rcases xH j i with h|h|h;exact absurd e1 (Ab j y h I);exact h;exact absurd rfl (hn i _ h P)
  subst ej;rw[P] at I;cases I;have W:((b:Int)==(b:Int))=cd:=ag
  simp[q2,V,f,q8,M,o,U,r1,W,oX,oF,J',e_,aD o,aD e_,aK,-ay];refine ck.cut (λT=>az aV s T) ((bk l).tick) ?_;rintro T g2;have iL:=gg.trans g2;refine ck.call (V:=λu r=>u=eU ⟨[dd (ia x.aP k v).1,dC ef (ia x.aP k v).2]⟩/\az aV T r) (by simpa [aC] using MG cS iL (name:=name) (p0:=p0) (rg:=rg) hB S hx hp v) ?_;rintro _ r⟨rfl,g3⟩;have c:=g2.trans g3;have dZ:=c.get l o;have ZE:D<=s.clock+1:=J
  simp[V,dZ,RU,ZE];have E':=g3.ok;have g4:=aZ E' (fG.enc ((p:Int),ia x.aP k v)) 0;have qN:=(jn.grow l c aj).grow E' g4 aj;have BW:bj fG (aM r (fG.enc ((p:Int),ia x.aP k v)) 0) (c6 (Z ⟨r.ax,0,K⟩) 1 1) [((p:Int),ia x.aP k v)]:=dx (bY _ _ _);have ln:=(d.trans c).ax;have⟨v',h5,ha,wQ,g5,_⟩:=fI (bytes:=24) g4.ok (z:=[dC ef 0,dd b9,dC ef 0]) rfl qN BW J ai (by simp;omega);obtain⟨q,rfl⟩:=bx.Fj wQ;refine kW (by simpa [A'.1,G] using ha) ?_;simp;refine C' _ _ q ?_ ag (((d.trans c).trans g4).cr.trans g5) wQ
  repeat (refine aH.set ?_)
  exact Kp.cX
 .have W:(y.1==(b:Int))=b9:=by simp[e1]
  simp[q2,V,f,q8,M,o,U,W,wj,oX,J',aD o,aK,-ay];refine⟨Y a-(j+1),J,j+1,Q,M,?_,ag,d.trans (bk l),λm z T r=>?_⟩
  .exact au
  .rcases Bb m j with g|g;exact hn m z g r
   .have:m=j:=J
    subst this;rw[I] at r;cases r;exact e1
def aqG:List Nat:=[10,12]++(aA 21).map (· +115)
def axF(g:aB)(b:Int)(a:List (Int×(Bool×Int)))(e:Env)(m:Nat)(c:Env)(d:aB):Prop:=
 ∃(j:Nat) (L:SV),m=Y a-j/\j<=Y a/\aH aqG e c/\bX c 10=L.v/\bz c 12 j/\az aV g d/\bx fG g.ax d L.v ((a.take j).filter (·.1≠b))
def Vi(y:cy g){E:SV}{p:Int}{F q:aa}(T:bj fG g E.v a)(i:Y a<1000000)(t:dR g X [dC ef p,F,q] D)(h:cg e 3 X)(F:bX e 11=E.v)(w:bX e 10=cU.v)(f:bz e 12 0)(V:∀M o (L:SV),aH aqG e M->bX M 10=L.v->az aV g o->bx fG g.ax o L.v (a.filter (·.1≠p))->C (.exit 6) M o):aN FF (.loop jb) e g C:=by
 have n:E.l=Y a:=by have⟨q,z,e,_⟩:=id T;simp at e;exact e.2.1
 refine aN.loop (axF g p a e) ?_ (n:=Y a) ⟨0,cU,Q,J,aH.refl _ _,w,f,.refl y,fc ⟨Q,Q⟩⟩;rintro m M o⟨j,L,rfl,v,Kp,b,N,k,l⟩;have u:=k.ok;have f:=Kp.at (t:=3) h;have s:=Kp.at (t:=11) F;have A:=k.get y t;have v:=u.bU A;unfold jb;by_cases G:j<Y a
 .have U:=bZ ((j:Int)+1) J J;have⟨x,d⟩:=aR a j G;obtain⟨r,t,z,H,_,⟨w,t,P,t,q⟩,F⟩:=(T.cr y k).read d;have h:=F 0 1 ai;have w:=F 0 3 ai;simp[-ay] at h w H;simp at s;rw[H.1,n] at s;have I:Old r o:=u.wf _ _ q;have z:(a.take (j+1)).filter (·.1≠p)=(a.take j).filter (·.1≠p)++(if x.1=p then [] else [x]):=by rw[mw,d,e6];by_cases e:x.1=p<;>simp[e]
  have F:Y ((a.take j).filter (·.1≠p))<=Y (a.take j):=NN _ _;have i:Y (a.take j)<=j:=by simp;omega
  have r:=k.ax;have S:=bk u;by_cases O:x.1=p
  .rw[bH O,ye] at z;simp[O,f,s,N,G,h,A,v,I,U,aD A,aK,-ay];refine⟨Y a-(j+1),J,j+1,L,Q,G,?_,av b,ag,k.trans S,by rw[z];exact l.grow u S aj⟩
   exact au
  .rw[bM O] at z;have q:(x.1 !=p)=cd:=by simp[O]
   simp[q,f,b,s,N,G,h,w,A,v,I,aD A,aK,-ay];have F:=aZ S.ok (fG.enc x) 0;have w:=(l.grow u S aj).grow S.ok F aj;have d:bj fG (aM (tick o) (fG.enc x) 0) (c6 (Z ⟨o.ax,0,K⟩) 1 1) [x]:=dx (bY _ _ _);have f:(aM (tick o) (fG.enc x) 0).ax=o.ax+1:=Q;obtain⟨W,i,y,i,W,_⟩:=fI (bytes:=24) F.ok (z:=[dC ef 0,dd b9,dC ef 0]) rfl w d J ai J;obtain⟨d,rfl⟩:=bx.Fj i;refine df (ak y) ?_;simp[N,U];refine⟨Y a-(j+1),J,j+1,d,Q,G,?_,ag,ag,((k.trans S).trans F).trans' W aj (λc F e=>aw (l.of e)),by rw[z];exact i⟩
   exact au
 .have:j=Y a:=J
  subst this;rw[mI] at l;simp at s;rw[n] at s;simp[s,N];refine V _ _ L ?_ (av b) k l
  exact au
def ajK(S:St n bs)(c:eB bs b k p t x)(o:bs[t]?=Z y)(l:q∈y.aP)(u:aO (aI bs t) b=j):fZ (dJ bs t q.row++[((p:Int),ia x.aP k ((q.row[j]?).getD (b9,0)))]) (Y bs)=(xd (uW (aI bs t) p) j (ia x.aP k) q).row:=by unfold dJ xd;exact af7 (S.E.rows t y o q l) (fF _ _) (λa s=>qO s) c.pt ⟨J,by have⟨z,g,_⟩:=c.pm;have:=(cR.mp g).1;omega⟩
def aqI:List Nat:=[6,7,8]++(aA 72).map (· +17)
def aqK(g:aB)(n0:Nat)(B:SV)(z:List YB)(i:Nat)(y:YB)(P:GP->GP)(L:List Nat)(c:Nat)(e:Env)(m:Nat)(b:Env)(d:aB):Prop:=
 ∃(j:Nat) (ps:List (GP×SV)),m=Y y.ps-j/\j<=Y y.ps/\aH L e b/\bz b c j/\cM g d n0 B z B (z.set i {y with ps:=ps})/\Y ps=Y y.ps/\∀(k:Nat)(q a:GP×SV),y.ps[k]?=Z q->ps[k]?=Z a->(k<j->a.1=P q.1)/\(j<=k->a=q)
def akj(cS:cy O)(P:az aV O g)(N:mm O c bs)(S':St n bs)(d:O.ax<=n0){F E X D G w b k p t:Nat}(hF:dR g F (aC name p0 rg c) E)(hX:dR g X [dC ef p,dC ef b,dC ef t] D)(hG:dR g G (aC name p0 rg B) w)(W:FZ g n0 B z)(hn:n0<=g.ax)(oF:¬cm B z F)(oX:¬cm B z X)(oG:¬cm B z G)(M:z.map YB.g=bs)(Wy:eB bs b k p t x){y:YB}(T:z[t]?=Z y){f:Nat}(U:aO (aI bs t) b=f)(d:cg e 2 F)(f3:cg e 3 X)(f5:cg e 5 G)(w:bz e 6 0)(C':∀U A ps,aH aqI e U->cM g A n0 B z B (z.set t {y with ps:=ps})->ps.map (·.1)=y.g.aP.map (xd (uW (aI bs t) p) f (ia x.aP k))->C (.exit 0) U A):aN FF (.loop je) e g C:=by
 have V:=P.ok;have E':=S'.E;have r:=E'.n50;have mj:Y z=Y bs:=by have:=congrArg dk M;simpa using this
 have hi:=(cR.mp T).1;have hib:t<Y bs:=J
 have hg:bs[t]?=Z y.g:=by rw[<-M,gu,T];rfl
 have r:=cK hg;have dq:=W.A.len;have Hw:=ae.len N;have om:Y y.ps<100000:=by have:=E'.pl y.g r;simpa [YB.g] using this
 have e2:z.set t {y with ps:=y.ps} =z:=ie T;obtain⟨T,T,T,TW,_,_,⟨r,T,T,rfl,sP,T,T⟩,oB0,XV⟩:=ae.later cS N hg;have abM:=ae.len sP;have ypl:Y y.g.aP=Y y.ps:=by simp[YB.g]
 have r:=Wy.bt E';have⟨s,az6,asX,T⟩:=j_ r;have T:s=f:=J
 subst T;have ndt:=eC bs t;refine aN.loop (aqK g n0 B z t y (xd (uW (aI bs t) p) s (ia x.aP k)) aqI 6 e) ?_ (n:=Y y.ps) ⟨0,y.ps,Q,J,aH.refl _ _,w,by rw[e2];exact .refl W V,Q,λi q f a b=>⟨λh=>J,λ_=>by rw[a] at b;cases b;rfl⟩⟩;rintro m U A⟨j,ps,rfl,U,Kp,q6,T,nJ,Hq⟩;have U:=T.g.ok;have q2:=Kp.at (t:=2) d;have q3:=Kp.at (t:=3) f3;have q5:=Kp.at (t:=5) f5;have r:az aV O A:=P.trans' T.g aj (λd hc ⟨l,e⟩=>aw (W.new l d e));have gM:=T.g.get V hF oF;have w:=T.g.get V hX oX;have P:=T.g.get V hG oG;have⟨V,ez⟩:∃V,V=z.set t {y with ps:=ps} :=⟨_,Q⟩;have Bi:V[t]?=Z {y with ps:=ps} :=by rw[ez,fq,bH Q,bH hi]
 rw[<-ez] at T;have Y':=T.w.at Bi;have fe:y.P.l=Y y.ps:=by have:y.P.l=Y ps:=Y'.P.len;rw[this,nJ]
 obtain⟨V,V,V,u,dY,wW,V,_,V,_⟩:=T.w.A.el Bi;have rd:=V 0 1 ai;have V:=XV A r 0 1 ai;simp[-ay] at rd V;rw[fe] at rd;have e_:=gM;simp[aC] at P e_;rw[dY,dq,mj] at P;rw[TW,Hw] at e_;unfold je;by_cases bp:j<Y y.ps
 .have wj:=bZ ((j:Int)+1) J J;have⟨q,hq⟩:=aR y.ps j bp;have⟨f,pE⟩:=aR ps j;have eq:=(Hq j q f hq pE).2 (fE _);subst eq;have G2:y.g.aP[j]?=Z f.1:=by simp[YB.g,hq]
  have afI:=cK G2;have my:=E'.rows t y.g hg f.1 afI;have Be:=h_ bs t;have⟨bP0,auf,cP0,afr,_,_,⟨A0,amP,sA⟩,oP0,hrdP0⟩:=ae.later cS sP G2;subst amP;have rQ:=hrdP0 A r 0 2 ai;simp[-ay] at rQ;rw[afr,abM,ypl] at V;have⟨bP,cP,oP,sP',gy,sJ,XP,dM,Wn,eI⟩:=Y'.P.el pE;have oZ:y.P.a=Z ⟨bP,0,K⟩:=gy;rw[oZ] at rd;have oG':=U.bU P;have oF':=U.bU e_;have YG:=U.bU w;have HU:=U.bU wW;have an8:=r.bU oB0;have aoa:=r.bU oP0;simp[q2,q3,q5,q6,P,e_,w,aD P,aD e_,aD w,bp,hib,rd,V,rQ,oG',oF',YG,HU,an8,aoa,aK,-ay];have jP:Y (dJ bs t f.1.row)<100000:=by unfold dJ;rw[tl];omega
  refine ck.cut (λV=>az aV A V/\A.clock<=V.clock) ⟨bk U,hQ _⟩ ?_;rintro V⟨S,-⟩;have iL:=r.trans S;refine ck.call (V:=λv A=>az aV V A/\∃L:SV,v=L.v/\bx fG V.ax A L.v (dJ bs t f.1.row)) (by simpa [aC,TW,Hw] using vM S.ok (name:=name) (p:=p0) (r:=rg) (dst:=f.1.dst) (N.mono cS iL) (sA.mono cS iL λ_ _ h=>h) J (λx hx=>aw (E'.two hx)) t J) ?_;rintro _ h3⟨g3,L,rfl,gh⟩;have O':=S.trans g3;have eS:=r.trans O';simp;have⟨v,hv⟩:=aR f.1.row s;have hes:(dJ bs t f.1.row)[s]?=Z ((b:Int),v):=by unfold dJ;rw[fi];exact⟨asX,hv⟩
  have l3:=g3.ax;refine ahi cS eS N S' (O'.get U gM) (O'.get U w) Wy.hx Wy.hp (L:=L) (i:=s) (v:=v) gh jP hes (λm z' hm hz e=>?_) l3 (av q2) (av q3) ag ag ?_;unfold dJ at hz;rw[fi] at hz;have:=(ga (cR.mp hz.1).1 ndt).1 (hz.1.trans (by rw[e];exact asX.symm));omega
  intro e4 h4 L4 K4 k7 g4 qN;have k2:=K4.at (t:=2) (aq q2);have k3:=K4.at (t:=3) (aq q3);have k5:=K4.at (t:=5) (aq q5);have k6:bX e4 6=dC ef j:=K4.at (aq q6);have lt2:=S.ax;have o:az aV A h4:=O'.trans' g4 aj (λd hc e=>aw (gh.of e));have pT:=r.trans o;have r:=o.get U P;have yB:=o.get U e_;have iG:=o.get U w;have hP4:=o.get U sJ;have W4:=T.w.cr U o;have⟨bB4,cB4,oB4,sB4,qt,yR,_,_,Q0,_⟩:=W4.A.el Bi;rw[dY] at qt;cases qt;have YU:=Q0 0 1 ai;simp[-ay] at YU;rw[oZ,fe] at YU;have H:=o.ok;have oG4:=H.bU r;have oF4:=H.bU yB;have oX4:=H.bU iG;have YF:=H.bU yR;have stG:=H.st _ _ _ _ _ r;have Sh:=H.st _ _ _ _ _ iG;have stB:=H.st _ _ _ _ _ yR;simp[k2,k3,k5,k6,k7,r,yB,iG,aD r,aD yB,aD iG,hib,YU,oG4,oF4,oX4,YF,aK,-ay];have I:=bk H;have hG5:=I.get H r;have nC:=I.get H iG;have hB5:=I.get H yR;have hP5:=I.get H hP4;have A5:=(du qN).grow H I aj;have r:(tick h4).ax=h4.ax:=Q;have r:(tick h4).clock=h4.clock+1:=Q;generalize tick h4=h5 at*;have w_:Y (dJ bs t f.1.row++[((p:Int),ia x.aP k v)])<1000000:=by simp;omega
  refine ck.call (V:=λv2 A=>az aV h5 A/\∃r:SV,v2=r.v/\bx cH h5.ax A r.v (fZ (dJ bs t f.1.row++[((p:Int),ia x.aP k v)]) (Y bs))) (ak (zr I.ok A5.sl w_ (Y bs) J)) ?_;rintro _ h6⟨r,A',rfl,jo⟩;have eP:=ajK S' Wy hg afI az6;rw[hv,da] at eP;rw[eP] at jo;have hG6:=r.get I.ok hG5;have qC:=r.get I.ok nC;have hB6:=r.get I.ok hB5;have OR:=r.get I.ok hP5;have qZ:=dM 1 1 ai;simp at qZ;simp[hG6,qC,stG,Sh,stB,hB6,bp,OR,qZ,k6,wj,-ay];have g7:=aX (off:=j*2+1) (vs:=[A'.v]) r.ok OR;simp at g7;have Ni:=eI (xd (uW (aI bs t) p) s (ia x.aP k) f.1,A') 1 [A'.v] ag (by simp[bg,xd]) (put h6 bP (j*2+1) cP [A'.v] oP) ⟨h6.clock,ag⟩;simp at Ni;have CA:az aV A h6:=(o.trans I).trans r;have l5:=(o.trans I).ax;have T7:=T.row (j:=j) hn Bi pE (p':=(xd (uW (aI bs t) p) s (ia x.aP k) f.1,A')) (CA.cr.trans (g7.cX λd _ e=>fc ⟨.P,fc Q,by rw[e];exact cj gy⟩)) Ni ((du jo).go r.ok g7 λd hc e=>by have:=jo.of (jt (du jo) e);have:=U.wf _ _ sJ;omega) (λd e=>ft (aw (jo.of (jt (du jo) e))))
  rw[ez,wN] at T7;refine⟨Y y.ps-(j+1),J,j+1,ps.set j (xd (uW (aI bs t) p) s (ia x.aP k) f.1,A'),Q,bp,?_,ag,ak T7,av nJ,λk2 a d g V=>?_⟩
  .repeat (refine aH.set ?_)
   refine aH.trans ?_ (K4.cX)
   exact au
  rw[fq] at V;by_cases e:j=k2;subst e;rw[bH Q,bH J] at V;cases V;rw[hq] at g;cases g;exact⟨λ_=>rfl,λh=>J⟩;rw[bM e] at V;have⟨r,U⟩:=Hq k2 a d g V;exact⟨λh=>r J,λh=>U J⟩
 .have:j=Y y.ps:=J
  subst this;simp[q3,q5,q6,P,w,aD P,aD w,hib,rd,-ay];rw[ez] at T;refine C' _ _ ps ?_ T (Bc λk=>?_)
  .exact au
  rw[gu,gu];simp only[YB.g,gu];rcases Bb k (Y y.ps) with r|r;have⟨q,hq⟩:=aR y.ps k r;have⟨f,pE⟩:=aR ps k (by rw[nJ];exact r);rw[hq,pE];simp only[zz];rw[(Hq k q f hq pE).1 r];rw[xE r,xE (by rw[nJ];exact r)];rfl
def aiN(S:St n bs)(a:eB bs b k p t x)(l:bs[b]?=Z y)(o:q∈y.aP):fZ ((dJ bs b q.row).filter (·.1≠(p:Int))) (Y bs)=(BN k q).row:=by have⟨z,g,c⟩:=a.pm;have:=congrArg GP.row (aab S.E g l c o);rw[UW (eC bs b) a.hp] at this;exact this
def aqH:List Nat:=[9,10,11,12]++(aA 62).map (· +89)
def aki(cS:cy O)(V:az aV O g)(ZE:mm O c bs)(S':St n bs)(d:O.ax<=n0){F E X D G w b k p t:Nat}(hF:dR g F (aC name p0 rg c) E)(hX:dR g X [dC ef p,dC ef b,dC ef t] D)(hG:dR g G (aC name p0 rg B) w)(W:FZ g n0 B z)(hn:n0<=g.ax)(oF:¬cm B z F)(oX:¬cm B z X)(oG:¬cm B z G)(mj:Y z=Y bs)(Wy:eB bs b k p t x){y:YB}(U:z[b]?=Z y)(P:y.g=x)(d:cg e 2 F)(f3:cg e 3 X)(f5:cg e 5 G)(f:bz e 9 0)(C':∀T s ps,aH aqH e T->cM g s n0 B z B (z.set b {y with ps:=ps})->ps.map (·.1)=y.g.aP.map (BN k)->C (.exit 4) T s):aN FF (.loop jc) e g C:=by
 have r:=V.ok;have w:=S'.E;have yf:=w.n50;have hi:=(cR.mp U).1;have O':b<Y bs:=J
 have hg:bs[b]?=Z y.g:=by rw[P];exact Wy.hx
 have P:=cK hg;have dq:=W.A.len;have Hw:=ae.len ZE;have om:Y y.ps<100000:=by have:=w.pl y.g P;simpa [YB.g] using this
 have P:z.set b {y with ps:=y.ps} =z:=ie U;obtain⟨U,U,U,TW,_,_,⟨U,U,U,rfl,sP,U,U⟩,oB0,XV⟩:=ae.later cS ZE hg;have abM:=ae.len sP;have ypl:Y y.g.aP=Y y.ps:=by simp[YB.g]
 refine aN.loop (aqK g n0 B z b y (BN k) aqH 9 e) ?_ (n:=Y y.ps) ⟨0,y.ps,Q,J,aH.refl _ _,f,by rw[P];exact .refl W r,Q,λi q f a b=>⟨λh=>J,λ_=>by rw[a] at b;cases b;rfl⟩⟩;rintro m T s⟨j,ps,rfl,U,Kp,q9,T,nJ,Hq⟩;have U:=T.g.ok;have q2:=Kp.at (t:=2) d;have q3:=Kp.at (t:=3) f3;have q5:=Kp.at (t:=5) f5;have P:az aV O s:=V.trans' T.g aj (λd hc ⟨l,e⟩=>aw (W.new l d e));have gM:=T.g.get r hF oF;have M:=T.g.get r hX oX;have V:=T.g.get r hG oG;have⟨r,ez⟩:∃r,r=z.set b {y with ps:=ps} :=⟨_,Q⟩;have Bi:r[b]?=Z {y with ps:=ps} :=by rw[ez,fq,bH Q,bH hi]
 rw[<-ez] at T;have Y':=T.w.at Bi;have fe:y.P.l=Y y.ps:=by have:y.P.l=Y ps:=Y'.P.len;rw[this,nJ]
 obtain⟨r,r,r,u,dY,wW,r,_,r,_⟩:=T.w.A.el Bi;have rd:=r 0 1 ai;have yz:=XV s P 0 1 ai;simp[-ay] at rd yz;rw[fe] at rd;have r:=gM;simp[aC] at V r;rw[dY,dq,mj] at V;rw[TW,Hw] at r;unfold jc;by_cases bp:j<Y y.ps
 .have wj:=bZ ((j:Int)+1) J J;have⟨q,hq⟩:=aR y.ps j bp;have⟨f,pE⟩:=aR ps j;have eq:=(Hq j q f hq pE).2 (fE _);subst eq;have G2:y.g.aP[j]?=Z f.1:=by simp[YB.g,hq]
  have afI:=cK G2;have my:=w.rows b y.g hg f.1 afI;have Be:=h_ bs b;have⟨bP0,auf,cP0,afr,_,_,⟨A0,amP,sA⟩,oP0,hrdP0⟩:=ae.later cS sP G2;subst amP;have rQ:=hrdP0 s P 0 2 ai;simp[-ay] at rQ;rw[afr,abM,ypl] at yz;have⟨bP,cP,oP,sP',gy,sJ,XP,dM,Wn,eI⟩:=Y'.P.el pE;have oZ:y.P.a=Z ⟨bP,0,K⟩:=gy;rw[oZ] at rd;have oG':=U.bU V;have oF':=U.bU r;have YG:=U.bU M;have HU:=U.bU wW;have an8:=P.bU oB0;have aoa:=P.bU oP0;simp[q2,q3,q5,q9,V,r,M,aD V,aD r,aD M,bp,O',rd,yz,rQ,oG',oF',YG,HU,an8,aoa,aK,-ay];have jP:Y (dJ bs b f.1.row)<100000:=by unfold dJ;rw[tl];omega
  refine ck.cut (λI=>az aV s I/\s.clock<=I.clock) ⟨bk U,hQ _⟩ ?_;rintro I⟨S,-⟩;have iL:=P.trans S;refine ck.call (V:=λv s=>az aV I s/\∃L:SV,v=L.v/\bx fG I.ax s L.v (dJ bs b f.1.row)) (by simpa [aC,TW,Hw] using vM S.ok (name:=name) (p:=p0) (r:=rg) (dst:=f.1.dst) (ZE.mono cS iL) (sA.mono cS iL λ_ _ h=>h) J (λx hx=>aw (w.two hx)) b J) ?_;rintro _ w⟨w,L,rfl,gh⟩;have g13:=S.trans w;have eS:=P.trans g13;simp;have l3:=w.ax;refine Vi (E:=L) (p:=(p:Int)) w.ok (du gh).sl J (g13.get U M) (av q3) ag (by simp[cU]) ag ?_;intro e4 w L4 K4 k10 g4 qN;have k2:=K4.at (t:=2) (aq q2);have k3:=K4.at (t:=3) (aq q3);have k5:=K4.at (t:=5) (aq q5);have k9:bX e4 9=dC ef j:=K4.at (aq q9);have lt2:=S.ax;have o:az aV s w:=g13.trans g4;have pT:=P.trans o;have P:=o.get U V;have yB:=o.get U r;have r:=o.get U M;have hP4:=o.get U sJ;have W4:=T.w.cr U o;have⟨bB4,cB4,oB4,sB4,qt,yR,_,_,Q0,_⟩:=W4.A.el Bi;rw[dY] at qt;cases qt;have YU:=Q0 0 1 ai;simp[-ay] at YU;rw[oZ,fe] at YU;have A:=o.ok;have oG4:=A.bU P;have oF4:=A.bU yB;have oX4:=A.bU r;have YF:=A.bU yR;have stG:=A.st _ _ _ _ _ P;have Sh:=A.st _ _ _ _ _ r;have stB:=A.st _ _ _ _ _ yR;simp[k2,k3,k5,k9,k10,P,yB,r,aD P,aD yB,aD r,O',YU,oG4,oF4,oX4,YF,aK,-ay];have H:=bk A;have hG5:=H.get A P;have nC:=H.get A r;have hB5:=H.get A yR;have hP5:=H.get A hP4;have A5:=(du qN).grow A H aj;have P:(tick w).ax=w.ax:=Q;have r:(tick w).clock=w.clock+1:=Q;generalize tick w=h5 at*;have P:Y ((dJ bs b f.1.row).filter (·.1≠(p:Int)))<1000000:=aw (NN (λx=>decide (x.1≠(p:Int))) (dJ bs b f.1.row))
  refine ck.call (V:=λw s=>az aV h5 s/\∃r:SV,w=r.v/\bx cH h5.ax s r.v (fZ ((dJ bs b f.1.row).filter (·.1≠(p:Int))) (Y bs))) (ak (zr H.ok A5.sl P (Y bs) J)) ?_;rintro _ h6⟨N,w,rfl,P⟩;have r:=aiN S' Wy hg afI;rw[r] at P;have hG6:=N.get H.ok hG5;have qC:=N.get H.ok nC;have hB6:=N.get H.ok hB5;have OR:=N.get H.ok hP5;have r:=dM 1 1 ai;simp at r;simp[hG6,qC,stG,Sh,stB,hB6,bp,OR,r,k9,wj,-ay];have r:=aX (off:=j*2+1) (vs:=[w.v]) N.ok OR;simp at r;have Ni:=eI (BN k f.1,w) 1 [w.v] ag (by simp[bg,BN]) (put h6 bP (j*2+1) cP [w.v] oP) ⟨h6.clock,ag⟩;simp at Ni;have CA:az aV s h6:=(o.trans H).trans N;have l5:=(o.trans H).ax;have T7:=T.row (j:=j) hn Bi pE (p':=(BN k f.1,w)) (CA.cr.trans (r.cX λd _ e=>fc ⟨.P,fc Q,by rw[e];exact cj gy⟩)) Ni ((du P).go N.ok r λd hc e=>by have:=P.of (jt (du P) e);have:=U.wf _ _ sJ;omega) (λd e=>ft (aw (P.of (jt (du P) e))))
  rw[ez,wN] at T7;refine⟨Y y.ps-(j+1),J,j+1,ps.set j (BN k f.1,w),Q,bp,?_,ag,ak T7,av nJ,λk2 a d g I=>?_⟩
  .repeat (refine aH.set ?_)
   refine aH.trans ?_ (K4.cX)
   exact au
  rw[fq] at I;by_cases e:j=k2;subst e;rw[bH Q,bH J] at I;cases I;rw[hq] at g;cases g;exact⟨λ_=>rfl,λh=>J⟩;rw[bM e] at I;have⟨w,P⟩:=Hq k2 a d g I;exact⟨λh=>w J,λh=>P J⟩
 .have:j=Y y.ps:=J
  subst this;simp[q3,q5,q9,V,M,aD V,aD M,O',rd,-ay];rw[ez] at T;refine C' _ _ ps ?_ T (Bc λk=>?_)
  .exact au
  rw[gu,gu];simp only[YB.g,gu];rcases Bb k (Y y.ps) with r|r;have⟨q,hq⟩:=aR y.ps k r;have⟨f,pE⟩:=aR ps k (by rw[nJ];exact r);rw[hq,pE];simp only[zz];rw[(Hq k q f hq pE).1 r];rw[xE r,xE (by rw[nJ];exact r)];rfl
def ahH(s:eB bs b k p t x)(D:bs[t]?=Z S)(A:bs[p]?=Z l){o:List YB}(G:o.map YB.g=(bs.set t {S with aP:=S.aP.map (xd (uW (aI bs t) p) (aO (aI bs t) b).toNat (ia x.aP k))}).set b {x with aP:=x.aP.map (BN k)}){a:YB}(C:o[p]?=Z a){c:List Int}(M:c=l.to.map λu=>if u=(b:Int) then(t:Int) else u):(o.set p {a with to:=c}).map YB.g=xf bs b k p t x:=by
 have H:=(cR.mp D).1;have d:a.g= {l with aP:=l.aP.map (wL bs b k p t x p)} :=by
  have g:(o.map YB.g)[p]?=Z a.g:=by rw[gu,C];rfl
  rw[G,fq,bM (λe=>s.pb e.symm),fq] at g;by_cases e:t=p
  .subst e;rw[bH Q,bH H] at g;obtain rfl:S=l:=bI (D.symm.trans A);rw[<-bI g];have E:S.aP.map (xd (uW (aI bs t) t) (aO (aI bs t) b).toNat (ia x.aP k))=S.aP.map (wL bs b k t t x t):=bf λq _=>by unfold wL xd ahG;rw[bH rfl]
   simp only[E]
  .rw[bM e,A] at g;rw[<-bI g];have:l.aP.map (wL bs b k p t x p)=l.aP:=by
    conv=>rhs;rw[<-rk l.aP]
    exact bf λq _=>by unfold wL;rw[bM (λE=>e E.symm),bM s.pb];rfl
   rw[this]
 rw[Vz s D A,<-G,dr];congr 1;have g:a.ps.map (·.1)=l.aP.map (wL bs b k p t x p):=congrArg GB.aP d;have I:a.ls.map (·.1)=l.list:=congrArg GB.list d;have N:a.kind=l.kind:=congrArg GB.kind d;have f:a.on=l.on:=congrArg GB.on d;unfold Cj;rw[bH rfl];simp only[YB.g] at g⊢;rw[g,I,N,f,M]
def aqF:List Nat:=[14]++(aA 18).map (· +159)
def axE(g:aB)(n0:Nat)(B:SV)(z:List YB)(i:Nat)(y:YB)(f:Int->Int)(e:Env)(m:Nat)(a:Env)(b:aB):Prop:=
 ∃j:Nat,m=Y y.to-j/\j<=Y y.to/\aH aqF e a/\bz a 14 j/\cM g b n0 B z B (z.set i {y with to:=(y.to.take j).map f++y.to.drop j})
def ahj(f:cy g)(W:FZ g n0 B z)(hn:n0<=g.ax){v:aa}{b t:Int}(P:dR g X [v,dC ef b,dC ef t] D)(h:¬cm B z X){y:YB}(q:z[i]?=Z y)(r:Y y.to<=2)(r:cg e 3 X)(n:bX e 13=y.T.v)(v:bz e 14 0)(d:∀k a,aH aqF e k->cM g a n0 B z B (z.set i {y with to:=y.to.map λu=>if u=b then t else u})->C (.exit 8) k a):aN FF (.loop ja) e g C:=by
 have w:=(cR.mp q).1;have V:z.set i {y with to:=(y.to.take 0).map (λu=>if u=b then t else u)++y.to.drop 0} =z:=ie q;refine aN.loop (axE g n0 B z i y (λu=>if u=b then t else u) e) ?_ (n:=Y y.to) ⟨0,Q,J,aH.refl _ _,v,by rw[V];exact .refl W f⟩;rintro m k a⟨j,rfl,x,Kp,F,T⟩;have E:=T.g.ok;have U:=Kp.at (t:=3) r;have o:=Kp.at (t:=13) n;have G:=T.g.get f P h;have p:=E.bU G;have⟨O,H⟩:∃O,O=z.set i {y with to:=(y.to.take j).map (λu=>if u=b then t else u)++y.to.drop j} :=⟨_,Q⟩;have h:O[i]?=Z {y with to:=(y.to.take j).map (λu=>if u=b then t else u)++y.to.drop j} :=by rw[H,fq,bH Q,bH w]
 rw[<-H] at T;have A:eo encI a y.T ((y.to.take j).map (λu=>if u=b then t else u)++y.to.drop j):=(T.w.at h).T;have L:y.T.l=Y y.to:=by have:=A.len;simp at this;omega
 have k:Y ((y.to.take j).map (λu=>if u=b then t else u))=j:=by simp;omega
 simp at o;rw[L] at o;unfold ja;by_cases l:j<Y y.to
 .have f:=bZ ((j:Int)+1) J J;have⟨u,w⟩:=aR y.to j l;have V:((y.to.take j).map (λu=>if u=b then t else u)++y.to.drop j)[j]?=Z u:=by rw[Hv J,k,r6,gD,Jk];exact w
  have⟨q,I,P,sT,x,v,n,Y',L,afZ⟩:=A.el V;have N:=L 0 1 ai;simp[-ay] at N;rw[x] at o;have s:=E.bU v;have n:(y.to.take (j+1)).map (λu=>if u=b then t else u)++y.to.drop (j+1)=((y.to.take j).map (λu=>if u=b then t else u)++y.to.drop j).set j (if u=b then t else u):=by rw[mw,w,aW,List.set_append,bM J,k,r6,fj l,List.set_cons_zero];simp
  by_cases M:u=b
  .have r:(u==b)=cd:=by simp[M]
   have w:=E.st _ _ _ _ _ v;have L:=Y' 0 1 ai;simp at L;simp[U,o,F,l,N,r,G,p,s,aD G,aK,v,L,f,-ay];have S:=bk E;have w:(tick a).tr.get q=Z (.ch I b9 P sT):=ak v
   have v:=aX (off:=j) (vs:=[aL ef t]) S.ok w;have k:=afZ t 0 [dC ef t] ag rfl (put (tick a) q j I [dC ef t] P) ⟨(tick a).clock,ag⟩;have L:=(T.cr S).to hn h (v.cX (λc _ e=>fc ⟨.T,Q,by rw[e];exact cj x⟩)) k;refine⟨Y y.to-(j+1),J,j+1,Q,l,?_,ag,?_⟩
   .exact au
   rw[n,bH M];rw[H,wN] at L;exact L
  .have r:(u==b)=b9:=by simp[M]
   simp[U,o,F,l,N,r,G,p,s,aD G,aK,f,-ay];refine⟨Y y.to-(j+1),J,j+1,Q,l,?_,ag,?_⟩
   .exact au
   rw[n,bM M];have:((y.to.take j).map (λu=>if u=b then t else u)++y.to.drop j).set j u=(y.to.take j).map (λu=>if u=b then t else u)++y.to.drop j:=ie V;rw[this,<-H];exact T.cr (bk E)
 .have:j=Y y.to:=J
  subst this;simp[o,F];rw[H,mI,cG,ye] at T;refine d _ _ ?_ T
  exact au
def MF(cS:cy O)(r:az aV O h){name:ByteArray}{p0 rg:Int}(I:mm O c bs)(f:St n bs)(w:eB bs b k p t x):aY FF 51 [eU ⟨aC name p0 rg c⟩,eU ⟨[dC ef p,dC ef b,dC ef t]⟩] h (js name p0 rg (xf bs b k p t x) h):=by
 have X:=r.ok;have E':=f.E;have F:=E'.n50;have N:¬h.ax=h.ax+1:=J
 have F:¬h.ax=h.ax+1+1:=J
 have d:¬h.ax+1=h.ax+1+1:=J
 refine aY.of zS ?_;unfold pN;simp[aC,N,F];refine bm.cut (λg=>az aV h g/\g.ax=h.ax+3/\(c_ g h.ax (aC name p0 rg c))/\(c_ g (h.ax+1) [dC ef p,dC ef b,dC ef t])/\c_ g (h.ax+1+1) [eT ⟨⟨[]⟩⟩,dC ef 0,dC ef 0,c6 K 0 0]) ⟨(((az.refl X).new _ _).new _ _).new _ _,ag,⟨0,by simp[aC,N,F]⟩,⟨0,av d⟩,⟨0,ag⟩⟩ ?_;rintro g⟨v,F,⟨E,P⟩,⟨D,q⟩,⟨H,X⟩⟩;refine bm.call (V:=js name p0 rg bs g) (by simpa [aC] using tw cS (r.trans v) (name:=name) (p:=p0) (r:=rg) I f.Jg J) ?_;rintro _ G⟨F,B,z,rfl,W,xi,M⟩;simp[aC];refine aN.cut (λj=>az aV G j/\c_ j G.ax (aC name p0 rg B)) ⟨(az.refl F.ok).var _ _,⟨G.clock,by simp[bg,aC]⟩⟩ ?_;rintro j⟨a,L,U⟩;have m:=F.ax;have d:=a.ax;have T:=W.cr F.ok a;have L:=F.trans a;have g03:=(r.trans v).trans L;have low:∀V,V<g.ax->¬cm B z V:=λV m ⟨l',e⟩=>aw (W.new l' _ e)
 have d:¬cm B z G.ax:=λ⟨l',e⟩=>aw (W.lt F.ok e)
 have oF:=low h.ax J;have oX:=low (h.ax+1) J;have oR:=low (h.ax+1+1) J;have oh:=L.get v.ok P;have dZ:=L.get v.ok q;have xG:=L.get v.ok X;have lG:=a.ok.wf _ _ U;have mj:Y z=Y bs:=by have:=congrArg dk M;simpa using this
 have F:∀ {i:Nat} {y:GB},bs[i]?=Z y->∃P,z[i]?=Z P/\P.g=y:=λh=>by rw[<-M,gu] at h;exact cQ.1 h
 have⟨yb,O4,eb⟩:=F w.hx;have⟨S,Wk⟩:∃y,bs[t]?=Z y:=⟨_,iK (w.t1 E').2⟩;have⟨X,D',et⟩:=F Wk;have⟨l,G2,q⟩:=w.pm;have⟨yp,J',ep⟩:=F G2;have lt:=(cR.mp D').1;have F:=(cR.mp J').1;have⟨q,hjj,_,_⟩:=j_ (w.bt E');have o:=r.ax;have q:=v.ax;refine akj cS g03 (name:=name) (p0:=p0) (rg:=rg) (n0:=g.ax) I f J oh dZ U T J oF oX d M w D' hjj ag ag ag ag ?_;intro F h4 qs T r M4;have k2:cg F 2 h.ax:=T.at ag;have q:cg F 3 (h.ax+1):=T.at ag;have k4:cg F 4 (h.ax+1+1):=T.at ag;have P:cg F 5 G.ax:=T.at ag;have F:=r.g;have C:∀V,V<j.ax->¬cm B z V->¬cm B (z.set t {X with ps:=qs}) V:=λV m hn h=>(r.s V h).elim hn J;have yB:=F.get a.ok oh oF;have iG:=F.get a.ok dZ oX;have T:=F.get a.ok xG oR;have T:=F.get a.ok U d;have g04:az aV O h4:=g03.trans' F aj (λV m h=>low V J h);have aBi:(z.set t {X with ps:=qs})[b]?=Z yb:=by rw[fq,bM w.tb];exact O4
 have lF:=a.ok.wf _ _ oh;have lX:=a.ok.wf _ _ dZ;have lR:=a.ok.wf _ _ xG;have l4:=F.ax;simp;refine aki cS g04 (name:=name) (p0:=p0) (rg:=rg) (n0:=g.ax) I f J yB iG T r.w J (C _ lF oF) (C _ lX oX) (C _ lG d) (ak mj) w aBi eb (av k2) (av q) (av P) ag ?_;intro F f ZE T f M5;have q:cg F 3 (h.ax+1):=T.at (aq q);have k4:cg F 4 (h.ax+1+1):=T.at (aq k4);have P:cg F 5 G.ax:=T.at (aq P);have T:=r.trans f;have⟨f,F⟩:∃f,f=(z.set t {X with ps:=qs}).set b {yb with ps:=ZE} :=⟨_,Q⟩;rw[<-F] at T;have u0:Y f=Y bs:=by rw[F];simpa using mj
 have r:=T.g;have ok5:=r.ok;have nC:=r.get a.ok dZ oX;have AU:=r.get a.ok xG oR;have hG5:=r.get a.ok U d;have anV:∀V,V<j.ax->¬cm B z V->¬cm B f V:=λV m hn h=>(T.s V h).elim hn J;have⟨j,N',zpo⟩:∃j,f[p]?=Z j/\j.to=yp.to:=by rw[F,fq,bM (λe=>w.pb e.symm),fq];by_cases e:t=p;subst e;rw[bH Q,bH lt];obtain rfl:X=yp:=bI (D'.symm.trans J');exact⟨_,Q,Q⟩;rw[bM e];exact⟨yp,J',Q⟩
 have hpo:j.to=l.to:=zpo.trans (congrArg GB.to ep);have j:=E'.two (cK G2);have hz:f.map YB.g=(bs.set t {S with aP:=S.aP.map (xd (uW (aI bs t) p) (aO (aI bs t) b).toNat (ia x.aP k))}).set b {x with aP:=x.aP.map (BN k)} :=by
  have f:({X with ps:=qs} :YB).g= {S with aP:=S.aP.map (xd (uW (aI bs t) p) (aO (aI bs t) b).toNat (ia x.aP k))} :=by rw[<-et];simp only[YB.g,M4,hjj,Xn]
  have X:({yb with ps:=ZE} :YB).g= {x with aP:=x.aP.map (BN k)} :=by rw[<-eb];simp only[YB.g,M5]
  rw[F,dr,dr,f,X,M]
 have dq:=T.w.A.len;obtain⟨X,s,F,u,X,f,F,F,F,f⟩:=T.w.A.el N';have f:=F 5 1 ai;simp[-ay] at f;have A:=hG5;simp[aC] at A;rw[X,dq,u0] at A;have F:p<Y bs:=J
 simp[q,P,A,nC,F,f,aD A,aD nC,-ay];refine ahj ok5 T.w (aw r.ax) nC (anV _ lX oX) N' (by rw[hpo];exact j) (av q) ag ag ?_;intro F h6 r q;have k4:cg F 4 (h.ax+1+1):=r.at (aq k4);have P:cg F 5 G.ax:=r.at (aq P);have j:=T.trans q;have T:=j.g;have F:=T.ok;have q:=T.get a.ok xG oR;have X:=T.get a.ok U d;have f:=X;simp[aC] at f;simp[k4,P,f,q];have f:=aX (off:=0) (vs:=[eK name,dC ef p0,dC ef rg,c6 B.a B.l B.c]) F q;have q:az aV h h6:=(v.trans L).trans' T aj (λV m h=>low V J h);exact⟨q.trans' f aj (λV m e=>J),B,_,by simp[aC],(j.w.go F f λV l' e d=>aw (j.w.new l' V d)).cX J,j.x xi,ahH w Wk G2 hz N' (by rw[hpo])⟩
def axy(h:aB)(name:ByteArray)(p n:Nat)(bs:List GB)(m:Nat)(d:Env)(b:aB):Prop:=
 ∃(j a:Nat) (r:Int) (l:SV) (c:List GB),m=100-j/\j<=100/\cg d 1 h.ax/\cg d 2 (h.ax+1)/\bz d 3 j/\(az aV h b/\h.ax+2<=b.ax)/\(c_ b h.ax (aC name p r l))/\(c_ b (h.ax+1) [eT ⟨⟨[]⟩⟩,dC ef 0,dC ef 0,c6 K 0 0])/\mm b l c/\St a c/\p<=a/\a<=n/\∀res,Om He p (100-j) c res->Om He p 100 bs res
def IW(H:cy h){r:Int}(g:mm h B bs)(S:St n bs)(d:p<=n)(f:n<1000){l:List cn}{s a:Nat}{o:Operand}{R:Env->aB->Prop}(b:ev e o=eU ⟨aC name p r B⟩)(C:∀D v res,He p (yk bs (Y bs)) res->js name p res.1 res.2 h v D->∀u,aH [s,a] e u->bX u a=v->bm FF l u D R)(i:s≠a):bm FF (⟨Z s,K,.call (.func 49) [o]⟩::⟨Z a,K,.call (.func 17) [.tmp s]⟩::l) e h R:=by
 refine bm.call (V:=js name p r (yk bs (Y bs)) h) (by simpa [b] using ac5 H (.refl H) (name:=name) (p:=p) (r:=r) g S.E S.Jg) ?_;rintro _ b⟨c,g,g,rfl,i,g,g⟩;have E:=i.view;rw[g] at E;refine bm.call (V:=RtZ name p n (yk bs (Y bs)) b) (ak (Zf c.ok (.refl c.ok) (name:=name) (r:=r) E (S.EP _) d f)) ?_;rintro _ f⟨G,I,no,g,b,O,rfl,d,M,N⟩;have i:=c.ax;refine C f _ (iQ p G) ⟨G,I,no,Q⟩ ⟨c.trans g,b,O,Q,d.cX J,M,N⟩ _ ?_ (by simp[gG]);intro t A;simp at A;simp[bX,Tr.bS,A]
def RT(W:cy O)(U:az aV O h){name:ByteArray}{r:Int}(F:mm O B bs)(S:St n bs)(y:p<=n)(X:n<1000):aY FF 21 [eU ⟨aC name p r B⟩] h (λv X=>∃res,Om He p 100 bs res/\js name p res.1 res.2 h v X):=by
 have X:=U.ok;have N:¬h.ax=h.ax+1:=J
 have n1':¬h.ax+1=h.ax:=J
 refine aY.of BJ ?_;unfold su;simp[aC];refine aN.cut (λg=>az aV h g/\h.ax+2<=g.ax/\(c_ g h.ax (aC name p r B))/\c_ g (h.ax+1) [eT ⟨⟨[]⟩⟩,dC ef 0,dC ef 0,c6 K 0 0]) ⟨((az.refl X).new _ _).new _ _,ag,⟨0,by simp[aC,N]⟩,⟨0,ag⟩⟩ ?_;rintro g⟨X,i,d,z⟩;refine aN.loop (axy h name p n bs) ?_ (n:=100) ⟨0,n,r,B,bs,Q,J,ag,ag,ag,⟨X,i⟩,d,z,F.mono W (U.trans X),S,y,fE _,λ_ h=>h⟩;rintro m X U⟨j,X,r',X,X,rfl,X,q1,q2,q3,⟨X,z⟩,⟨E,z⟩,⟨H,hR⟩,V2,S2,M,i,Kp⟩;have i:=X.ok;have gM:=z;have F:=hR;simp[aC] at gM;have fin:∀(o:aB)(res:Nat×List GB)(u:SV)(A:List YB),az aV U o->FZ o U.ax u A->xk u A->A.map YB.g=res.2->Om He p 100 bs res->∀C,az (λc=>c=h.ax\/c=h.ax+1) o C->∃F d,Om He p 100 bs (F,d)/\js name p F d h (eU ⟨aC name p res.1 u⟩) C:=λo res u A a G F I D C d=>
  ⟨res.1,res.2,D,(X.trans a).trans' d aj (λc W e=>J),u,A,Q,(G.go a.ok d λc y e L=>aw (G.new y c L)).cX J,F,I⟩
 unfold qd;by_cases f:j<100
 .have wj:=bZ ((j:Int)+1) J J;have f:decide ((j:Int)<100)=cd:=by simp;omega
  simp[q1,q3,f,gM];refine IW i (name:=name) (p:=p) (r:=r') V2 S2 M J (by simp[aC]) ?_ ai;intro o v3 res D ⟨a,u,A,ev,G,F,I⟩ e3 K3 k11;subst ev;have⟨f,T⟩:=res;have⟨S3,N',P⟩:=D.st (S2.EP _) M;dsimp only at I S3 N' P;have P:cg e3 1 h.ax:=K3.at (av q1);have w:cg e3 2 (h.ax+1):=K3.at (av q2);have k3:bX e3 3=dC ef j:=K3.at (av q3);have V:=a.get i z;have xG:=a.get i hR;have z:=V;simp[aC] at z;simp[P,k11,aC,z];refine bm.cut (λC=>az (· =h.ax) o C/\c_ C h.ax (aC name p f u)) ⟨aX a.ok z,⟨o.clock,by simp[aC]⟩⟩ ?_;rintro C⟨d,z,yB⟩;have z:=d.ok;have V:FZ C U.ax u A:=G.go a.ok d λc y e L=>aw (G.new y c L)
  have Hx:=d.get a.ok xG n1';have U:=V.view;rw[I] at U;have gh4:az aV h C:=(X.trans a).trans' d aj (λc W e=>J);refine bm.call (V:=ZT T C) (by simpa [aC] using U8 z (.refl z) (name:=name) (p0:=p) (rg:=f) U S3) ?_;rintro _ X⟨s,W⟩;have NO:=s.get z yB;have AU:=s.get z Hx;have TY:=NO;simp[aC] at TY;have U:=a.ax;have U:=d.ax;have U:=s.ax;have O':¬h.ax=X.ax:=J
  have Q1:¬h.ax+1=X.ax:=J
  have W5:=V.cr z s;have ej:100-j=(100-(j+1))+1:=J
  rcases W with⟨b,k,q,t,x,rfl,FW⟩|⟨rfl,NW⟩
  .have z:decide ((q:Int)<0)=b9:=ag
   simp[P,w,k3,TY,O',bg,z];refine bm.cut (λU=>az aV X U) ((az.refl s.ok).var _ _) ?_;rintro U z;have V:=(W5.cr s.ok z).view;rw[I] at V;refine bm.call (V:=js name p f (xf T b k q t x) U) (by simpa [aC] using MF z.ok (.refl z.ok) (name:=name) (p0:=p) (rg:=f) V S3 FW.1) ?_;rintro _ h7⟨U,V,y7,rfl,W7,x7,M7⟩;have J':=z.trans U;have hF7:=J'.get s.ok NO;have Wc:=J'.get s.ok AU;have NP:=hF7;simp[aC] at NP;have l6:=z.ax;have z:=U.ax;simp[P,k3,aC,NP,wj];have l:=aX (off:=0) (vs:=[eK name,dC ef p,dC ef f,c6 V.a V.l V.c]) U.ok NP;have z:=W7.go U.ok l λc y e L=>aw (W7.new y c L)
   have L:=z.view;rw[M7] at L;refine⟨100-(j+1),J,j+1,f,f,V,xf T b k q t x,Q,J,av P,av w,ag,⟨((gh4.trans s).trans J').trans' l aj (λc W e=>J),by simp;omega⟩,⟨h7.clock,by simp[aC]⟩,⟨H,by simp[n1',Wc]⟩,L,S3.str FW.1,N',J,λres L=>Kp res ?_⟩;rw[ej];exact .step D FW L
  simp[P,w,k3,TY,AU,O',Q1,bg];have P:az (λc=>c=h.ax\/c=h.ax+1) o X:=(d.cX λc _ e=>fc e).trans s.cr;exact fin o (f,T) u A a G F I (Kp _ (.done D (ft NW))) _ ((P.trans ((az.refl s.ok).var _ _)).put ⟨H,by simp[Q1,AU]⟩ (ft (ft Q)))
 .have:j=100:=J
  subst this;simp[q1,q3,gM];refine IW i (name:=name) (p:=p) (r:=r') V2 S2 M J (by simp[aC]) ?_ ai;intro o v3 res D ⟨a,u,A,ev,G,F,I⟩ e3 K3 k23;subst ev;have w:cg e3 2 (h.ax+1):=K3.at (av q2);have xG:=a.get i hR;simp[w,k23,aC,xG];exact fin o res u A a G F I (Kp _ (.done D (fc Q))) _ ((az.refl a.ok).put ⟨H,xG⟩ (ft (ft Q)))
def LwL:List Nat:=[7]++(aA 17).map (· +29)
def LwI(l:aB)(c:SV)(P:mC)(b:List GF)(e:Env)(m:Nat)(g:Env)(d:aB):Prop:=
 ∃(k:Nat) (a:List XF),m=Y b-k/\k<=Y b/\aH LwL e g/\bz g 7 k/\az (bD c.v) l d/\eo wU d c a/\Y a=Y b/\∀(i:Nat)(z:XF)(f:GF),i<k->a[i]?=Z z->b[i]?=Z f->Dw l.ax (PV P) d z f
def VG{O E:aB}(cS:cy O)(g0:az aV O E){G F Gw M:SV}{d:List GF}(hF:ae (fR O) 4 O F.v d)(fV:∀f∈d,gU f)(np:Y d<=10){W:List XF}(hW:eo wU E M W)(Sx:Y W=Y d)(Ge:∀c,bD M.v c->O.ax<=c)(hU:dR E U [G.v,F.v] sU)(hX:dR E X [Gw.v,M.v] D)(nU:¬bD M.v U)(nX:¬bD M.v X)(f1:cg e 1 U)(f6:cg e 6 X)(f7:bz e 7 0)(C':∀e' A q,aH LwL e e'->az (bD M.v) E A->eo wU A M q->Y q=Y d->(∀(i:Nat)(z:XF)(f:GF),q[i]?=Z z->d[i]?=Z f->Dw E.ax (PV J1) A z f)->C (.exit 0) e' A):aN FF (.loop iu) e E C:=by
 have H:=g0.ok;have l1:=ae.len hF;refine aN.loop (LwI E M J1 d e) ?_ (n:=Y d) ⟨0,W,Q,J,aH.refl _ _,f7,.refl H,hW,Sx,λi z f h=>J⟩;rintro m e' A⟨k,q,rfl,hk,Kp,V,r,Q1,wO,D'⟩;have N:=r.ok;have ln:=r.ax;have gg:az aV O A:=g0.trans' r aj λc hc e=>aw (Ge c e)
 have q1:=Kp.at f1;have q6:=Kp.at f6;have p:=r.get H hU nU;have I:=r.get H hX nX;have vV:=Q1.len;simp at p I;rw[l1] at p;rw[vV,wO] at I;unfold iu;by_cases y:k<Y d
 .have wk:=bZ ((k:Int)+1) J J;have⟨f,hf⟩:=aR d k y;have⟨z,hz⟩:=aR q k;have L:=fV f (cK hf);have hr:=L.head.aF;have hp:=L.head.params;have⟨j,hpn⟩:∃n:Nat,f.params=n:=⟨f.params.toNat,J⟩;have⟨rn,hrn⟩:∃n:Nat,f.aF=n:=⟨f.aF.toNat,J⟩;have er:f.aF.toNat=rn:=J
  have ep:f.params.toNat=j:=J
  obtain⟨bF,aBW,cF,Fi,_,_,⟨B,rfl,u⟩,oF,cV⟩:=ae.later cS hF hf;have T:=cV A gg 0 4 ai;simp[-ay] at T;rw[hpn,hrn] at T;rw[Fi] at p;have⟨b,s,o,s',ha,hb,hjA,dM,_,eI⟩:=Q1.el hz;rw[ha] at I;have oU:=N.bU p;have oX:=N.bU I;have oF':=gg.bU oF;have RU:=N.st _ _ _ _ _ I;simp[q1,q6,V,p,I,aD p,aD I,y,T,oU,oX,oF',aK,-ay];have S:=bk N;have fh:=S.get N I;have qn:=S.get N hb;have nt:(tick A).ax=A.ax:=Q;generalize tick A=w at*;have S1:=L.st;rw[er] at S1;refine ck.call (V:=λv h3=>∃res,Om He j 100 f.blocks res/\js f.name j res.1 res.2 w v h3) (by simpa [aC] using RT cS (gg.trans S) (name:=f.name) (p:=j) (n:=rn) (r:=rn) u S1 J J) ?_;rintro _ P⟨res,D0,t,l,y4,rfl,W4,xi4,M4⟩;have R4:=L.ref J (res:=res) (by rw[ep];exact D0);have iG:=t.get S.ok fh;have hb4:=t.get S.ok qn;have hf4:=dM 0 4 ai;simp at hf4;simp[aC,iG,RU,y,hb4,hf4,V,wk];have ZE:=S.trans t;have lb:b<E.ax:=hW.bU H (fK ha);have g5:=aX (off:=k*4) (vs:=[eK f.name,dC ef j,dC ef res.1,c6 l.a l.l l.c]) t.ok hb4;have A5:=eI ⟨f.name,j,res.1,l⟩ 0 [eK f.name,dC ef j,dC ef res.1,c6 l.a l.l l.c] ag rfl (put P b (k*4) s [eK f.name,dC ef j,dC ef res.1,c6 l.a l.l l.c] o) ⟨P.clock,ag⟩;generalize put P b (k*4) s _ o=h5 at*;refine⟨Y d-(k+1),J,k+1,q.set k ⟨f.name,j,res.1,l⟩,Q,y,?_,ag,(r.trans ZE.cr).trans (g5.cX λc _ e=>e▸fK ha),A5,av wO,λi z2 f2 hi g w=>?_⟩
  .exact au
  .rw[fq] at g;by_cases e1:k=i;subst e1;rw[bH Q,bH J] at g;cases g;rw[hf] at w;cases w;have D5:Dw E.ax (PV J1) P ⟨f.name,j,res.1,l⟩ f:=⟨w.ax,y4,res.1,J,W4,⟨Q,hpn.symm,Q⟩,by rw[M4];exact R4⟩;exact D5.grow t.ok g5 λx e=>fc J
   rw[bM e1] at g;exact((D' i z2 f2 J g w).grow N ZE (λ_ h=>h.elim)).grow t.ok g5 λx e=>fc J
 .have:k=Y d:=J
  subst this;simp[q1,V,p,aD p,-ay];refine C' _ _ q ?_ r Q1 wO λi z f a b=>D' i z f (aw ((cR.mp b).1)) a b
  exact au
end Go.Proofs.YtdhnndleffachaaGreatDoor
