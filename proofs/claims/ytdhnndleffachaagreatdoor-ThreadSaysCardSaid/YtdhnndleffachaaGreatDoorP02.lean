/- Parts of the proof. -/
import Derived.Test.YtdhnndleffachaaGreatDoorP01
import Derived.Shelf.SlSortCmp.NoneTotal
import Derived.ProofKit
import Derived.WideKeyArgs
import Derived.Test.YtdhnndleffachaaGreatDoorP00
import Derived.OpenShut
import Derived.Test.YtdhnndleffachaaGreatDoorProg
import Derived.KernelRfl
open Array renaming getElem?_mapIdx->Dm,getElem?_modify->Dj
open Go.Addr renaming add->V8
open Go renaming DataW->K6,IntKind->nH,MemPlace->EL,Operand->aU,Program->b7,TypeId->e7,Value->aa,World->c5
open Go.DataW renaming TrodAll->V7,trod->vT,weights->oY,weightsAll->yh,weightsEach->K5
open Go.Sort renaming ahead->An,grow->yt
open Go.World renaming cell?->EK,frozen?->UX
open Int renaming negSucc->bL
open Nat renaming beq->ar,beq_refl->lW,ble->nK,ble_eq_true_of_le->u2,blt->eR,blt_eq->j0,le_add_right->s9,le_of_lt->uo,le_succ->hQ,lt_succ_of_lt->sW,lt_succ_self->sM,mul_le_mul->wm,sub_self->r6,zero_le->kp,zero_lt_one->zp
open Ne renaming symm->a7
open Option.some renaming inj->bI
open Option renaming some->Z,none->K
open Bool renaming false->b9,true->cd,not_eq_true'->yY,or_eq_true->nv
open List renaming length->Y,all_cons->gF,drop_append_of_le_length->ic,drop_drop->pa,flatten_cons->M6,getElem?_drop->gD,length_drop->sn,length_take->ml,mem_append_left->ba,mem_append_right->aT,mem_cons->bd,mem_singleton->br,nil_append->z1,pairwise_iff_getElem->gY,take_add->B7,take_append_of_le_length->eE,take_zero->oj
open Go.Value renaming slice->c6,bool->dd,pointer->dB,int->dC,string->eT,agg->eU,func->aat,okWide->w3
open Go.IntKind renaming i64->ef
open Or renaming inl->fc,inr->ft
set_option linter.all false
set_option maxHeartbeats 1000000
namespace Go.AI
variable{F:Nat->Option cY}{B d cs vs z:List aa}{l b a f H W i k len o off s t:Nat}{fov:cY}{h h':aB}{v:aa}
def ajH(e:F f=Z ⟨[.tmp 6],jQ z o a H W,.no⟩)(I:Y z=o)(d:0<o)(G:a<=1000){b off len c x A y:Nat}(V:len<c)(M:len<1000000)(M:dR h b cs s)(u:off+c*o<=Y cs)(u:h.tr.get x=Z (.ch B b9 l t))(j:cC h x A o=Z vs):aY F f [c6 (Z ⟨b,off,K⟩) len c,dC ef len,c6 (Z ⟨x,A,K⟩) 1 y] h (λv h'=>v=c6 (Z ⟨b,off,K⟩) (len+1) c/\h'.ax=h.ax/\h.clock<=h'.clock/\(∀y,y<h.ax->y≠b->h'.tr.get y=h.tr.get y)/\∃D,h'.tr.get b=Z (.ch (bg cs (off+len*o) vs) b9 0 D)):=by
 have⟨L,p⟩:∃L,L=len+1:=⟨_,Q⟩;rw[<-p];have C:L<=c:=J
 have U:L*o=len*o+o:=by rw[p,qB];omega
 have q:L*o<=c*o:=Gd _ C;have q:Y vs=o:=by unfold cC at j;rw[u] at j;dsimp only at j;split at j;rename_i N;cases j;exact qm N;cases j
 have E:roomy L=cd:=by simp[roomy];omega
 have O:roomy (L*a)=cd:=by have:L*a<=1000000*1000:=wm J G;simp[roomy];omega
 have G:off+len*o+o<=Y cs:=J
 refine aY.of e ?_;unfold jQ;simp[I,d,M,u,j,gi,news,dz,<-p,E,O,C,gq,q,G,-ay];exact⟨λy _ M=>by simp[Tr.bS,M],h.clock,by simp[Tr.bS]⟩
def O7(C:F f=Z ⟨[.tmp 6],jQ z o a H W,.no⟩)(e:F H=Z fov)(O:fov.Ap=.Rx)(M:Y z=o)(D:0<o)(U:a<=1000){b off len c i x G xc:Nat}(V:i<=len)(u:len<c)(A:len<1000000)(d:dR h b cs s)(E:off+c*o<=Y cs)(p:h.tr.get x=Z (.ch B b9 l t))(j:cC h x G o=Z vs)(q:b≠x):aY F f [c6 (Z ⟨b,off,K⟩) len c,dC ef i,c6 (Z ⟨x,G,K⟩) 1 xc] h (λv h'=>v=c6 (Z ⟨b,off,K⟩) (len+1) c/\h'.ax=h.ax/\h.clock<=h'.clock/\(∀y,y<h.ax->y≠b->h'.tr.get y=h.tr.get y)/\∃I,h'.tr.get b=Z (.ch (cs.take off++aQ cs vs off i len o++cs.drop (off+(len+1)*o)) b9 0 I)):=by
 rcases Bb i len with y|y;exact Ut C e O D y u A d E p j q
 .have:i=len:=J
  subst this;have y:(i+1)*o=i*o+o:=by rw[qB];omega
  have q:(i+1)*o<=c*o:=Gd _ J;have q:Y vs=o:=by unfold cC at j;rw[p] at j;dsimp only at j;split at j;rename_i N;cases j;exact qm N;cases j
  have e:cs.take off++aQ cs vs off i i o++cs.drop (off+(i+1)*o)=bg cs (off+i*o) vs:=by unfold aQ bg;rw[r6,Nat.zero_mul,oj,ye,<-KN,<-B7,q,y,DJ]
  rw[e];exact ajH C M D U u A d E p j
def Wl(o:Nat)(d:List aa)(h:aB):Option (aa×aB):=
 match d with
 |[c6 (Z ⟨b,off,K⟩) len c,dC ef (.ofNat i),c6 (Z ⟨x,j,K⟩) m _]=>
  match h.tr.get b,h.tr.get x with
  |some (.ch cs b9 a _),Z (.ch _ b9 _ _)=>
   if nK i len&&eR len c&&ar m 1&&(ar a o||ar a 0)&&nK (off+c*o) (Y cs)&& !(ar b x)&&eR len 1000000 then
    match cC h x j o with
    |some vs=>Z (c6 (Z ⟨b,off,K⟩) (len+1) c,{put h b off cs (aQ cs vs off i len o) a with ax:=h.ax+8})
    |none=>K
   else K
  |_,_=>K
 |_=>K
def aaY(j:Wl o d h=Z (v,h')):∃b off len c i x p q cs a s B l t vs,d=[c6 (Z ⟨b,off,K⟩) len c,dC ef (.ofNat i),c6 (Z ⟨x,p,K⟩) 1 q]/\h.tr.get b=Z (.ch cs b9 a s)/\h.tr.get x=Z (.ch B b9 l t)/\i<=len/\len<c/\(a=o\/a=0)/\off+c*o<=Y cs/\b≠x/\len<1000000/\cC h x p o=Z vs/\v=c6 (Z ⟨b,off,K⟩) (len+1) c/\h'= {put h b off cs (aQ cs vs off i len o) a with ax:=h.ax+8} :=by
 unfold Wl at j;split at j
 .rename_i b off len c i x p m q;split at j
  .rename_i cs a s B l t e f;split at j
   .rename_i y;simp only[pU,yY,nv] at y;have⟨⟨⟨⟨⟨⟨g,D⟩,k⟩,E⟩,I⟩,u⟩,G⟩:=y;split at j;rename_i vs C;cases j;have A:=qm k;subst A;refine⟨b,off,len,c,i,x,p,q,cs,a,s,B,l,t,vs,Q,e,f,ON g,by simpa [j0] using D,E.imp qm qm,ON I,?_,by simpa [j0] using G,C,Q,Q⟩;rintro rfl;rw[lW] at u;cases u
    cases j
   cases j
  cases j
 cases j
def adb(q:Wl o d h=Z (v,h')):eV h h':=by
 obtain⟨b,off,len,C,i,x,G,I,cs,c,s,B,l,t,vs,_,a,_,_,_,_,_,_,_,_,_,rfl⟩:=aaY q;have p:∀y,({put h b off cs (aQ cs vs off i len o) c with ax:=h.ax+8} :aB).tr.get y=if y=b then Z (.ch (bg cs off (aQ cs vs off i len o)) b9 c h.clock) else h.tr.get y:=by intro y;simp only[put,Tr.bS]
 refine⟨s9 _ _,hQ _,?_,?_,?_⟩;intro y c E c D u c D;rw[p] at c;by_cases e:y=b;rw[bH e] at c;cases c;omega;rwa [bM e] at c
 .intro j y A c;rw[p] at c;show y<h.ax+8;by_cases e:y=b
  have:=j b _ a;omega;rw[bM e] at c;have:=j y A c;omega
 intro y u c;rw[p] at c;by_cases e:y=b;rw[bH e] at c;cases c;rwa [bM e] at c
section
variable{m:dy}{g:fP}{h h':aB}{w:c5}
def eQ.swap(S:eQ m g h w){r C:Cn}{E H:qo}(G:g k=Z C)(U:h.tr.get k=Z E)(N:E.rw=cd)(F:g b=Z r)(M:r.ch=C.ch)(a:h'.tr.get b=Z H)(t:jg m g r H w)(z:h.ax<=h'.ax)(A:∀y o,y≠b->h'.tr.get y=Z o->y≠k/\∃u,h.tr.get y=Z u/\o=u):eQ m g h' w/\Ext g h w g h' w:=by
 have V:fU h k:=⟨E,U,N⟩;refine⟨⟨λx j c=>⟨Jy (S.low x j c).1 z,(S.low x j c).2⟩,?_,?_,?_⟩,⟨g.le_refl,z,fE _,Q,Q,Q,λ_ _ _=>rfl,?_,λx r s D=>(by rw[s] at D;cases D),?_⟩⟩;intro x j o c p;by_cases e:x=b;subst e;rw[F] at c;cases c;rw[a] at p;cases p;exact t;obtain⟨_,u,s,rfl⟩:=A x o e p;exact S.obj x j o c s;intro x y j v o c I ⟨q,O,T⟩ p eF;by_cases n:x=b;subst n;rw[F] at c;cases c;obtain⟨D,u,s,rfl⟩:=A y o (a7 eF) p;rw[M];exact S.inj k y C v o G I V s (a7 D);obtain⟨B,i,i,rfl⟩:=A x q n O;by_cases H:y=b;subst H;rw[F] at I;cases I;rw[M];exact S.inj x k j C E c G ⟨q,i,T⟩ U B;obtain⟨D,u,s,rfl⟩:=A y o H p;exact S.inj x y j v o c I ⟨q,i,T⟩ s eF;intro x o c;by_cases e:x=b;subst e;exact Jy (S.low x r F).1 z;obtain⟨_,u,s,rfl⟩:=A x o e c;exact Jy (S.wf x o s) z;intro x j c ⟨q,O,T⟩;by_cases e:x=b;subst e;rw[F] at c;cases c;exact ft ⟨k,C,G,V,M.symm⟩;obtain⟨_,u,s,rfl⟩:=A x q e O;exact ft ⟨x,j,c,⟨q,s,T⟩,Q⟩;intro x j o c p;by_cases e:x=b;subst e;rw[F] at c;cases c;exact ft ⟨k,C,E,G,U,M.symm⟩;obtain⟨_,u,s,rfl⟩:=A x o e p;exact ft ⟨x,j,o,c,s,Q⟩
end
def Yd(q:i<=len)(j:Y vs=o)(p:off+len*o<=Y cs):cs.take off++aQ cs vs off i len o++cs.drop (off+(len+1)*o)=bg cs off (aQ cs vs off i len o)/\Y (aQ cs vs off i len o)=(len+1)*o:=by
 have c:i*o+(len-i)*o=len*o:=by rw[<-qB];congr 1;omega
 have c:Y (aQ cs vs off i len o)=(len+1)*o:=by simp only[aQ,IA,ml,sn,j,qB];omega
 exact⟨by unfold bg;rw[c],c⟩
section
variable{P:b7}{T:tU}{g:Nat}{F:Nat->Option cY}
def adg(hF:Ha P T g (eZ T g) F)(hT:eG P T)(hf:F f=Z ⟨[.tmp 6],jQ z o a H W,.no⟩)(Wi:F H=Z fov)(Dk:fov.Ap=.Rx)(hz:Y z=o)(ho:0<o)(wY:a<=1000):Hc P T g (eZ T g) f (Wl o):=by
 intro d h v h' X dG ρ' w' S hG ha fN;obtain⟨b,off,len,cap,i,x',xo,xc,cs,c,s,B,l,t,vs,rfl,x,V,hi,Le,zB,dF,XH,U',I,rfl,rfl⟩:=aaY X;obtain⟨c0,c1,c2,rfl,h0,h1,h2⟩:=J6 ha;obtain⟨r,ca,p,L,U,rfl⟩:=fp h0;have hvl:Y vs=o:=by unfold cC at I;rw[V] at I;dsimp only at I;split at I;rename_i k;cases I;exact qm k;cases I
 have hm1:len*o+o=(len+1)*o:=by rw[qB];omega
 have hm2:(len+1)*o<=cap*o:=Gd _ Le;have⟨tK,dW⟩:=Yd (cs:=cs) (off:=off) hi hvl J;have hbn:=S.wf _ _ x;have NY:=S.wf _ _ V;have hB:=S.obj b r _ L x;rcases La c with rfl|Li
 .obtain⟨n',v2,xF,hr,rfl,QX,JD,yW,s',k⟩:=O7 (F:=F) hf Wi Dk hz ho wY (h:=h) (b:=b) (off:=off) (xc:=xc) hi Le U' x dF V I XH;have⟨fn,O,w,m,J',g1,g2,g3,g4,g5,g6,g7,n,M⟩:=qV hF hT hr S hG ha fN;rw[tK] at k;have E:=M.le b r L;have hO:jg (iD T g (eZ T g)) O r (.ch (bg cs off (aQ cs vs off i len o)) b9 0 h.clock) w:=by have:=n.obj b r _ E k;exact this
  have⟨S3,E3⟩:=n.swap (h':= {put h b off cs (aQ cs vs off i len o) 0 with ax:=h.ax+8}) E k rfl E rfl (by simp[put,Tr.bS]) hO (by rw[QX];exact s9 _ _) (λy o' N D=>by simp only[put,Tr.bS] at D;rw[bM N] at D;exact⟨N,o',by rw[yW y (S.wf y _ D) N];exact D,Q⟩);exact⟨fn,O,w,m,J',g1,g2,g3,g4,g5,g6,g7,S3,M.trans E3⟩
 .have aAA:c=o:=J
  subst aAA;have⟨q,el,fr,hw,w_,Dl,⟨kB,Lp⟩,Wj,vW⟩:=hB;have hrr:r.len<=r.room:=by have⟨m,G,_⟩:=vW (Y cs-1) _ (iK J);have:=(Array.getElem?_eq_some_iff.mp G).1;omega
  have alh:Y (q.toList.drop (r.base+r.len))=r.room-r.len:=by simp;omega
  have abY:Y (cs++q.toList.drop (r.base+r.len))=r.room:=by rw[IA,alh];omega
  have ZE:∀j v,(q.toList.drop (r.base+r.len))[j]?=Z v->dt v=cd/\q[r.base+(r.len+j)]?=Z v:=by
   intro j v A;rw[gD] at A;have C:q[r.base+(r.len+j)]?=Z v:=by rw[<-DJ];simpa using A
   exact⟨Lp J (r.len+j) v J C,C⟩
  let C:Cn:=⟨r.ch,r.base,r.room,0,r.room⟩
  have u:=rV (r:=C) S.fresh;have anh:jg (iD T g (eZ T g)) (iC ρ' h.ax C) C (.ch (cs++q.toList.drop (r.base+r.len)) b9 0 0) w':=by refine⟨q,el,fr,hw,abY.symm,Q,⟨kB,λh=>absurd Q h⟩,Wj,λj v A=>?_⟩;by_cases bp:j<Y cs;rw[Jf bp] at A;have⟨m,G,hk⟩:=vW j v A;exact⟨m,G,hk.mono u⟩;rw[Hv J] at A;have⟨G,e⟩:=ZE _ _ A;refine⟨v,?_,.cell (nu G)⟩;rw[<-e];show q[r.base+j]?=_;congr 1;omega
  have⟨S1,E1⟩:=S.move (im:=C) L x rfl rfl ⟨Q,Q,Q,Q,λ_ _=>rfl⟩ anh;have BV:∀y,(({h with tr:=h.tr.del b} :aB).new (.ch (cs++q.toList.drop (r.base+r.len)) b9 0 0)).tr.get y=if y=h.ax then Z (.ch (cs++q.toList.drop (r.base+r.len)) b9 0 0) else if y=b then K else h.tr.get y:=by intro y;simp only[aB.new,Tr.bS,Tr.iw]
  have hn1:(({h with tr:=h.tr.del b} :aB).new (.ch (cs++q.toList.drop (r.base+r.len)) b9 0 0)).ax=h.ax+1:=Q;generalize hh1:({h with tr:=h.tr.del b} :aB).new (.ch (cs++q.toList.drop (r.base+r.len)) b9 0 0)=kF at*;have QV:kF.tr.get h.ax=Z (.ch (cs++q.toList.drop (r.base+r.len)) b9 0 0):=by rw[BV,bH rfl]
  have hx1:kF.tr.get x'=Z (.ch B b9 l t):=by rw[BV,bM J,bM (a7 XH)];exact V
  have ajz:cC kF x' xo c=Z vs:=by rw[<-I];unfold cC;rw[hx1,V]
  have Ld:ca=⟨r.ch,r.base+off,K⟩:=by rcases U.1 with e|⟨_,e⟩;exact e;omega
  have hcc:cap<=p:=by rcases U.2.1 with e|e;omega;omega
  have abT:off+p*c<=r.room:=by rcases U.2.1 with e|⟨_,_,_,e⟩;rw[e];omega;rw[Dl] at e;exact e
  have nD:bQ (VR (iC ρ' h.ax C)) [c6 (Z ⟨h.ax,off,K⟩) len p,dC ef (.ofNat i),c6 (Z ⟨x',xo,K⟩) 1 xc] [c6 (Z ca) len p,c1,c2]:=by refine .cons (CR.vr (.slice (r:=C) (by simp[iC]) ⟨.inl Ld,fc Q,J⟩)) (.cons (h1.mono u) (.cons (h2.mono u) .nil))
  have hG1:=hG.mono u;obtain⟨n',v2,xF,hr,rfl,QX,JD,yW,s',k⟩:=O7 (F:=F) hf Wi Dk hz ho wY (h:=kF) (b:=h.ax) (off:=off) (i:=i) (xc:=xc) hi (show len<p by omega) U' QV (by rw[abY];exact abT) hx1 ajz J;have⟨fn,O,w,m,J',g1,g2,g3,g4,g5,g6,g7,n,M⟩:=qV hF hT hr S1 hG1 nD fN;obtain⟨r2,ca2,Oy,E,NU,rfl⟩:=fp g7;have Uj:r2=C:=by have:=M.le h.ax C (by simp[iC]);rw[this] at E;cases E;rfl
  subst Uj;have Ac:aQ (cs++q.toList.drop (r.base+r.len)) vs off i len c=aQ cs vs off i len c:=by
   have e4:i*c+(len-i)*c=len*c:=by rw[<-qB];congr 1;omega
   unfold aQ;rw[ic J,ic J,eE (by simp;omega),eE (by simp;omega)]
  have asB:(cs++q.toList.drop (r.base+r.len)).take off++aQ (cs++q.toList.drop (r.base+r.len)) vs off i len c++(cs++q.toList.drop (r.base+r.len)).drop (off+(len+1)*c)=bg cs off (aQ cs vs off i len c)++q.toList.drop (r.base+r.len):=by rw[Ac,<-tK,eE J,ic J];simp only[KN]
  rw[asB] at k;have hlc:Y (bg cs off (aQ cs vs off i len c))=Y cs:=by rw[<-tK];simp only[IA,ml,sn,dW];omega
  have⟨Jq,el2,amc,hw2,XQ,_,⟨Lk,_⟩,hfr2,u'⟩:=n.obj _ _ _ E k;have hρb:O b=Z r:=M.le b r (u b r L);have hO:jg (iD T g (eZ T g)) O r (.ch (bg cs off (aQ cs vs off i len c)) b9 c h.clock) w:=by
   refine⟨Jq,el2,amc,hw2,J,Dl,⟨Lk,λ_ j m A G=>?_⟩,hfr2,λj v A=>?_⟩
   .have yj:=(Array.getElem?_eq_some_iff.mp G).1;have ajv:r.base+r.room=Jq.size:=Lk;have⟨v,X⟩:=aR (q.toList.drop (r.base+r.len)) (j-Y cs) (by rw[alh];omega);have hC:(bg cs off (aQ cs vs off i len c)++q.toList.drop (r.base+r.len))[j]?=Z v:=by rw[Hv J,hlc];exact X
    have⟨c',Ji,Bf⟩:=u' _ _ hC;have afA:Jq[r.base+j]?=Z c':=Ji;rw[G] at afA;cases afA;exact To Bf (ZE _ _ X).1
   have bp:=(cR.mp A).1;exact u' j v (by rw[Jf bp];exact A)
  have⟨S3,E3⟩:=n.swap (h':= {put h b off cs (aQ cs vs off i len c) c with ax:=h.ax+8}) E k rfl hρb rfl (by simp[put,Tr.bS]) hO (by rw[QX,hn1];show h.ax+1<=h.ax+8;omega) (λy o' N D=>by simp only[put,Tr.bS] at D;rw[bM N] at D;have gP:=S.wf y _ D;exact⟨J,o',by rw[yW y J J,BV,bM J,bM N];exact D,Q⟩);refine⟨fn,O,w,_,J',g1,g2,g3,g4,g5,g6,CR.vr (.slice (r:=r) hρb ⟨?_,?_,Le⟩),S3,(E1.trans M).trans E3⟩;rcases NU.1 with e|⟨_,e⟩;exact .inl e;omega
  .have:Oy=p:=by rcases NU.2.1 with e|⟨e,_⟩;exact e;exact absurd rfl e
   rw[this];exact U.2.1
end
def Jn(p:i<len)(c:Y vs=o)(j:off+len*o<=Y cs):Y (aQ cs vs off i len o)=(len+1)*o:=by
 have j:i*o+(len-i)*o=len*o:=by rw[<-qB];congr 1;omega
 simp only[aQ,IA,ml,sn,c,qB];omega
def ajI{R ZE T vs:List aa}(q:Y R=i*o)(c:Y vs=o)(E:i<len)(A:Y ZE=(len+1-i)*o)(u:Y T=(len-i)*o):bg (bg (R++ZE) (i*o) vs) ((i+1)*o) T=R++vs++T:=by
 have C:(len+1-i)*o=(len-i)*o+o:=by rw[show len+1-i=len-i+1 by omega,qB];omega
 have D:(i+1)*o=i*o+o:=by rw[qB];omega
 unfold bg;have j:(R++ZE).take (i*o)=R:=by rw[eE J,nz J]
 rw[j];have p:(R++vs++(R++ZE).drop (i*o+Y vs)).take ((i+1)*o)=R++vs:=by rw[eE (by simp;omega),nz (by simp;omega)]
 have y:(R++vs++(R++ZE).drop (i*o+Y vs)).drop ((i+1)*o+Y T)=[]:=Gb (by simp[q,c,A,u];omega);rw[p,y,ye]
def Ca(z:List aa)(n:Nat):Y (jG z n)=n*Y z:=by
 induction n with
 |zero=>simp[jG]
 |succ n n=>simp[jG,n,qB];omega
def Us(T:F f=Z ⟨[.tmp 6],jQ z o a H W,.no⟩)(C:Y z=o)(V:0<o)(M:a<=1000){b off len i x N xc:Nat}{G:Bool}(hi:i<len)(e:len<1000000)(e:dR h b cs s)(d:off+len*o<=Y cs)(hx:h.tr.get x=Z (.ch B G l t))(d:cC h x N o=Z vs)(G:b≠x)(q:Old x h)(p:Old b h):aY F f [c6 (Z ⟨b,off,K⟩) len len,dC ef i,c6 (Z ⟨x,N,K⟩) 1 xc] h (λv h'=>v=c6 (Z ⟨h.ax,0,K⟩) (len+1) (len+1)/\h'.ax=h.ax+1/\h.clock<=h'.clock/\(∀y,y<h.ax->h'.tr.get y=h.tr.get y)/\∃O,h'.tr.get h.ax=Z (.ch (aQ cs vs off i len o) b9 o O)):=by
 have⟨L,A⟩:∃L,L=len+1:=⟨_,Q⟩;have⟨c,u⟩:∃c,c=L-i:=⟨_,Q⟩;have⟨I,N⟩:∃I,I=i+1:=⟨_,Q⟩;rw[<-A];have Q1:nH.i64.wrap ((len:Int)+1)=(L:Int):=by rw[bZ _ J J];omega
 have w2:nH.i64.wrap ((L:Int)-(i:Int))=(c:Int):=by rw[bZ _ J J];omega
 have k:nH.i64.wrap ((i:Int)+1)=(I:Int):=by rw[bZ _ J J];omega
 have r:((i:Int)==(len:Int))=b9:=by simp;omega
 have q2:¬L<=len:=J
 have E':len<L:=J
 have E:i<=len:=J
 have X:i+c=L:=J
 have S:¬c=0:=J
 have G:i<=L:=J
 have m:I<=L:=J
 have q8:Nat.min 1 (L-i)=1:=by show min 1 (L-i)=1;omega
 have U:Nat.min (len-i) (L-I)=len-i:=by show min (len-i) (L-I)=len-i;omega
 have g:¬len-i=0:=J
 have n:roomy L=cd:=by simp[roomy];omega
 have r2:roomy (L*a)=cd:=by have:L*a<=1000000*1000:=wm J M;simp[roomy];omega
 have V':roomy c=cd:=by simp[roomy];omega
 have M:i*o+(len-i)*o=len*o:=by rw[<-qB];congr 1;omega
 have M:L*o=len*o+o:=by rw[A,qB];omega
 have M:I*o=i*o+o:=by rw[N,qB];omega
 have M:i*o+c*o=L*o:=by rw[<-qB];congr 1
 have M:Y ((cs.drop off).take (i*o))=i*o:=by simp;omega
 have O:min (i*o) (Y cs-off)=i*o:=J
 have P:o<=c*o:=J
 have w:¬b=h.ax:=aw p.lt
 have Py:min ((len-i)*o) (Y cs-(off+i*o))=(len-i)*o:=J
 have D:I*o+(len-i)*o<=L*o:=J
 have I:¬x=h.ax:=aw q.lt
 have x:cC h b (off+i*o) ((len-i)*o)=Z ((cs.drop (off+i*o)).take ((len-i)*o)):=fm e J;have j:Y vs=o:=by unfold cC at d;rw[hx] at d;dsimp only at d;split at d;rename_i hh;cases d;exact qm hh;cases d
 have u':Y (bg (List.take (i*o) (List.drop off cs)++jG z c) (i*o) vs)=L*o:=by simp[bg,Ca,C,j];omega
 refine aY.of T ?_;unfold jQ;simp[Q1,w2,k,r,q2,E',E,X,S,G,m,q8,U,g,e,C,V,n,r2,V',M,O,q,p,d,gi,news,dz,bh,cw,aK,vS,j,w,Py,D,u',Ca,P,I,x,-xD,-ay];refine⟨J,?_,?_⟩
 .intro y I;have x:¬y=h.ax:=J
  simp[x,vS (show Old y h from I)]
 have:=ajI (R:=(cs.drop off).take (i*o)) (ZE:=jG z c) (T:=(cs.drop (off+i*o)).take ((len-i)*o)) (vs:=vs) (i:=i) (o:=o) (len:=len) M j hi (by rw[Ca,C,u,A]) (by simp;omega);rw[N,this];rfl
def ajG(D:F f=Z ⟨[.tmp 6],jQ z o a H W,.no⟩)(C:Y z=o)(E:0<o)(U:a<=1000){b off len x y N j:Nat}(O:j=o\/j=0)(d:len<1000000)(d:h.tr.get b=Z (.ch cs b9 j s))(j:off+len*o=Y cs)(G:h.tr.get x=Z (.ch B b9 l t))(e:cC h x y o=Z vs)(L:b<h.ax):aY F f [c6 (Z ⟨b,off,K⟩) len len,dC ef len,c6 (Z ⟨x,y,K⟩) 1 N] h (λv h'=>v=c6 (Z ⟨h.ax,0,K⟩) (len+1) (len+1)/\h'.ax=h.ax+1/\h.clock<=h'.clock/\(∀y,y<h.ax->y≠b->h'.tr.get y=h.tr.get y)/\∃N,h'.tr.get h.ax=Z (.ch (aQ cs vs off len len o) b9 o N)):=by
 have⟨L,c⟩:∃L,L=len+1:=⟨_,Q⟩;rw[<-c];have M:¬L<=len:=J
 have u:roomy L=cd:=by simp[roomy];omega
 have I:roomy (L*a)=cd:=by have:L*a<=1000000*1000:=wm J U;simp[roomy];omega
 have A:min (len*o) (Y cs-off)=len*o:=J
 have V:ar (off+len*o) (Y cs)=cd:=by rw[j];exact lW _
 have U:aQ cs vs off len len o=(cs.drop off).take (len*o)++vs:=by unfold aQ;simp
 rw[U];have q:¬o=0:=J
 rcases O with rfl|rfl
 .refine aY.of D ?_;unfold jQ;simp[C,E,d,G,e,gi,news,dz,<-c,u,I,M,A,j,q,-ay];intro y U p;have:¬y=h.ax:=J
  simp[aM,aB.new,Tr.bS,Tr.iw,this,p]
 .refine aY.of D ?_;unfold jQ;simp[C,E,d,G,e,gi,news,dz,<-c,u,I,M,A,j,q,-ay];intro y U p;have:¬y=h.ax:=J
  simp[aM,aB.new,Tr.bS,this]
def XW(o:Nat)(d:List aa)(h:aB):Option (aa×aB):=
 match d with
 |[c6 (Z ⟨b,off,K⟩) len c,dC ef (.ofNat i),c6 (Z ⟨x,j,K⟩) m _]=>
  match h.tr.get b,h.tr.get x with
  |some (.ch cs b9 a _),Z (.ch _ b9 _ _)=>
   if nK i len&&ar len c&&ar m 1&&(ar a o||ar a 0)&&ar (off+c*o) (Y cs)&& !(ar b x)&&eR len 1000000 then
    match cC h x j o with
    |some vs=>Z (c6 (Z ⟨h.ax+8,0,K⟩) (len+1) (len+1),aM {h with ax:=h.ax+8,tr:=h.tr.del b} (aQ cs vs off i len o) o)
    |none=>K
   else K
  |_,_=>K
 |_=>K
def aaA(c:XW o d h=Z (v,h')):∃b off len i x j p cs a s B l t vs,d=[c6 (Z ⟨b,off,K⟩) len len,dC ef (.ofNat i),c6 (Z ⟨x,j,K⟩) 1 p]/\h.tr.get b=Z (.ch cs b9 a s)/\h.tr.get x=Z (.ch B b9 l t)/\i<=len/\(a=o\/a=0)/\off+len*o=Y cs/\b≠x/\len<1000000/\cC h x j o=Z vs/\v=c6 (Z ⟨h.ax+8,0,K⟩) (len+1) (len+1)/\h'=aM {h with ax:=h.ax+8,tr:=h.tr.del b} (aQ cs vs off i len o) o:=by
 unfold XW at c;split at c
 .rename_i b off len G i x j m p;split at c
  .rename_i cs a s B l t e M;split at c
   .rename_i u;simp only[pU,yY,nv] at u;have⟨⟨⟨⟨⟨⟨f,C⟩,g⟩,D⟩,I⟩,q⟩,E⟩:=u;split at c;rename_i vs A;cases c;have u:=qm C;have y:=qm g;subst u;subst y;refine⟨b,off,len,i,x,j,p,cs,a,s,B,l,t,vs,Q,e,M,ON f,D.imp qm qm,qm I,?_,by simpa [j0] using E,A,Q,Q⟩;rintro rfl;rw[lW] at q;cases q
    cases c
   cases c
  cases c
 cases c
def aca(u:XW o d h=Z (v,h')):eV h h':=by
 obtain⟨b,off,len,i,x,G,I,cs,G,s,B,l,t,vs,_,G,_,_,_,_,_,_,_,_,rfl⟩:=aaA u;have j:∀y,(aM {h with ax:=h.ax+8,tr:=h.tr.del b} (aQ cs vs off i len o) o).tr.get y=if y=h.ax+8 then Z (.ch (aQ cs vs off i len o) b9 o 0) else if y=b then K else h.tr.get y:=by intro y;simp only[aM,aB.new,Tr.bS,Tr.iw]
 refine⟨by simp only[xN];omega,fE _,?_,?_,?_⟩;intro y E E A D A c _;rw[j,bM J] at c;by_cases e:y=b;rw[bH e] at c;cases c;rwa [bM e] at c;intro p y C c;rw[j] at c;by_cases e:y=h.ax+8;subst e;simp;rw[bM e] at c;by_cases q:y=b;rw[bH q] at c;cases c;rw[bM q] at c;have:=p y C c;simp only[xN];omega
 intro y A c;rw[j,bM J] at c;by_cases e:y=b;rw[bH e] at c;cases c;rwa [bM e] at c
section
variable{P:b7}{CC:dy}{L g:fP}{h m:aB}{w n:c5}
def eQ.bump(S:eQ CC L h w){n:Nat}(c:h.ax<=n):eQ CC L {h with ax:=n} w/\Ext L h w L {h with ax:=n} w:=
 ⟨⟨λb r a=>⟨Jy (S.low b r a).1 c,(S.low b r a).2⟩,S.obj,S.inj,λb o a=>Jy (S.wf b o a) c⟩,⟨L.le_refl,c,fE _,Q,Q,Q,λ_ _ _=>rfl,λb r a j=>ft ⟨b,r,a,j,Q⟩,λb r h h'=>(by rw[h] at h';cases h'),λb r o a p=>ft ⟨b,r,o,a,p,Q⟩⟩⟩
def eQ.part(S:eQ CC L h w)(D:h'.ax=h.ax)(j:∀y o,h'.tr.get y=Z o->h.tr.get y=Z o):eQ CC L h' w/\Ext L h w L h' w:=
 ⟨⟨λb r x=>by rw[D];exact S.low b r x,λx r o c G=>S.obj x r o c (j x o G),λx y G M p c E ⟨q,A,C⟩ u I=>S.inj x y G M p c E ⟨q,j x q A,C⟩ (j y p u) I,λx p u=>by rw[D];exact S.wf x p (j x p u)⟩,⟨L.le_refl,Nat.le_of_eq D.symm,fE _,Q,Q,Q,λ_ _ _=>rfl,λx r c ⟨q,A,C⟩=>ft ⟨x,r,c,⟨q,j x q A,C⟩,Q⟩,λx r C E=>(by rw[C] at E;cases E),λx r p c u=>ft ⟨x,r,p,c,j x p u,Q⟩⟩⟩
def EO{C im:Cn}{V c:List aa}{q y o:Nat}(U:eQ CC g m n)(E:Ext L h w g m n)(N:g k=Z C)(e:m.tr.get k=Z (.ch V b9 q y))(q:im.ch=C.ch)(u:SE g im c b9 o n)(j:m.ax<=h.ax+8)(G:h.ax<=k)(p:∀y o,h.tr.get y=Z o->y<h.ax)(C:∀y,y<h.ax->y≠b->m.tr.get y=h.tr.get y):eQ CC (iC g (h.ax+8) im) (aM {h with ax:=h.ax+8,tr:=h.tr.del b} c o) n/\Ext L h w (iC g (h.ax+8) im) (aM {h with ax:=h.ax+8,tr:=h.tr.del b} c o) n/\g.le (iC g (h.ax+8) im):=by
 have⟨D,M⟩:=U.bump j;have j:=rV (r:=im) D.fresh;have⟨U,O⟩:=D.move (im:=im) (o':=.ch c b9 o 0) N e rfl q ⟨Q,Q,Q,Q,λ_ _=>rfl⟩ (jg.mono (CC:=CC) (o:=.ch c b9 o 0) j Q u);have⟨I,D⟩:=U.part (h':=aM {h with ax:=h.ax+8,tr:=h.tr.del b} c o) rfl (by intro y N c;simp only[aM,aB.new,Tr.bS,Tr.iw] at c⊢;by_cases e:y=h.ax+8;rw[bH e] at c⊢;exact c;rw[bM e] at c⊢;by_cases A:y=b;rw[bH A] at c;cases c;rw[bM A] at c;have e:=p y N c;rw[bM J,C y e A];exact c)
 exact⟨I,((E.trans M).trans O).trans D,j⟩
end
def Gk{cs c vs:List aa}(p:i<len)(j:off+len*o<=Y cs):aQ (cs++c) vs off i len o=aQ cs vs off i len o:=by
 have q:i*o+(len-i)*o=len*o:=by rw[<-qB];congr 1;omega
 unfold aQ;rw[ic J,eE (by simp;omega),ic J,eE (by simp;omega)]
section
variable{P:b7}{T:tU}{m:Nat}{F:Nat->Option cY}
def abE(hF:Ha P T m (eZ T m) F)(hT:eG P T)(hf:F f=Z ⟨[.tmp 6],jQ z o a H W,.no⟩)(Wi:F H=Z fov)(Dk:fov.Ap=.Rx)(hz:Y z=o)(E:0<o)(wY:a<=1000):Hc P T m (eZ T m) f (XW o):=by
 intro d h v h' x j ρ' w' S hG X fN;obtain⟨b,off,len,i,x',xo,V',cs,u,s,B,l,t,vs,rfl,O,g,I,zB,dF,XH,M',N,rfl,rfl⟩:=aaA x;obtain⟨A,c1,c2,rfl,w,h1,h2⟩:=J6 X;obtain⟨r,ca,p,hρ,Gh,rfl⟩:=fp w
 suffices D:aY F f [c6 (Z ⟨b,off,K⟩) len len,dC ef (.ofNat i),c6 (Z ⟨x',xo,K⟩) 1 V'] h (λv h'=>v=c6 (Z ⟨h.ax,0,K⟩) (len+1) (len+1)/\h'.ax=h.ax+1/\h.clock<=h'.clock/\(∀y,y<h.ax->y≠b->h'.tr.get y=h.tr.get y)/\∃s',h'.tr.get h.ax=Z (.ch (aQ cs vs off i len o) b9 o s'))\/(i<len/\u=o) by
  rcases D with⟨n',v2,xF,V,rfl,QX,JD,yW,s',G⟩|⟨U,e⟩;have⟨fn,ρ2,n,c,E',g1,g2,g3,g4,g5,g6,L,u,M⟩:=qV hF hT V S hG X fN;obtain⟨k,ca2,Oy,I,w,rfl⟩:=fp L;have ani:=u.obj _ _ _ I G;have⟨S3,E3,as5⟩:=EO (b:=b) (im:=k) u M I G rfl ani J J S.wf yW;exact⟨fn,_,n,_,E',g1,g2,g3,g4,g5,g6,CR.vr (.slice (r:=k) (by simp[iC]) w),S3,E3⟩
  .rw[e] at O;obtain⟨q,el,fr,hw,e,Dl,⟨kB,Lp⟩,Wj,e⟩:=S.obj b r _ hρ O;have C:0<len*o:=Nat.mul_pos J E;have j:r.len<=r.room:=by have⟨c,X,_⟩:=e (Y cs-1) _ (iK J);have:=(Array.getElem?_eq_some_iff.mp X).1;omega
   have tK:Y (q.toList.drop (r.base+r.len))=r.room-r.len:=by simp;omega
   have abY:Y (cs++q.toList.drop (r.base+r.len))=r.room:=by rw[IA,tK];omega
   have af0:∀j v,(q.toList.drop (r.base+r.len))[j]?=Z v->dt v=cd/\q[r.base+(r.len+j)]?=Z v:=by
    intro j v A;rw[gD] at A;have C:q[r.base+(r.len+j)]?=Z v:=by rw[<-DJ];simpa using A
    exact⟨Lp J (r.len+j) v J C,C⟩
   let C:Cn:=⟨r.ch,r.base,r.room,0,r.room⟩
   have Ad:=rV (r:=C) S.fresh;have anh:jg (iD T m (eZ T m)) (iC ρ' h.ax C) C (.ch (cs++q.toList.drop (r.base+r.len)) b9 0 0) w':=by refine⟨q,el,fr,hw,abY.symm,Q,⟨kB,λh=>absurd Q h⟩,Wj,λj v A=>?_⟩;by_cases bp:j<Y cs;rw[Jf bp] at A;have⟨c,X,hk⟩:=e j v A;exact⟨c,X,hk.mono Ad⟩;rw[Hv J] at A;have⟨X,e⟩:=af0 _ _ A;refine⟨v,?_,.cell (nu X)⟩;rw[<-e];show q[r.base+j]?=_;congr 1;omega
   have⟨S1,E1⟩:=S.move (im:=C) hρ O rfl rfl ⟨Q,Q,Q,Q,λ_ _=>rfl⟩ anh;have e:=S.wf _ _ O;have e:=S.wf _ _ g;have BV:∀y,(({h with tr:=h.tr.del b} :aB).new (.ch (cs++q.toList.drop (r.base+r.len)) b9 0 0)).tr.get y=if y=h.ax then Z (.ch (cs++q.toList.drop (r.base+r.len)) b9 0 0) else if y=b then K else h.tr.get y:=by intro y;simp only[aB.new,Tr.bS,Tr.iw]
   have e:(({h with tr:=h.tr.del b} :aB).new (.ch (cs++q.toList.drop (r.base+r.len)) b9 0 0)).ax=h.ax+1:=Q;generalize e:({h with tr:=h.tr.del b} :aB).new (.ch (cs++q.toList.drop (r.base+r.len)) b9 0 0)=kF at*;have QV:kF.tr.get h.ax=Z (.ch (cs++q.toList.drop (r.base+r.len)) b9 0 0):=by rw[BV,bH rfl]
   have hx1:kF.tr.get x'=Z (.ch B b9 l t):=by rw[BV,bM J,bM (a7 XH)];exact g
   have ajz:cC kF x' xo o=Z vs:=by rw[<-N];unfold cC;rw[hx1,g]
   have hvl:Y vs=o:=by unfold cC at N;rw[g] at N;dsimp only at N;split at N;rename_i e;cases N;exact qm e;cases N
   have Ld:ca=⟨r.ch,r.base+off,K⟩:=by rcases Gh.1 with e|⟨_,e⟩;exact e;omega
   have hcc:len<=p:=by rcases Gh.2.1 with e|e;omega;omega
   have aEG:off+len*o<=r.room:=J
   have nD:bQ (VR (iC ρ' h.ax C)) [c6 (Z ⟨h.ax,off,K⟩) len p,dC ef (.ofNat i),c6 (Z ⟨x',xo,K⟩) 1 V'] [c6 (Z ca) len p,c1,c2]:=by refine .cons (CR.vr (.slice (r:=C) (by simp[iC]) ⟨.inl Ld,fc Q,hcc⟩)) (.cons (h1.mono Ad) (.cons (h2.mono Ad) .nil))
   have hG1:=hG.mono Ad;have aEF:({h with tr:=h.tr.del b} :aB).ax=h.ax:=Q;by_cases HD:p=len
   subst HD;obtain⟨n',v2,xF,V,rfl,QX,JD,yW,s',G⟩:=Us (F:=F) hf hz E wY (h:=kF) (b:=h.ax) (off:=off) (i:=i) (xc:=V') U M' QV (by rw[IA];omega) hx1 ajz J (show x'<kF.ax by omega) (show h.ax<kF.ax by omega);have⟨fn,ρ2,n,c,E',g1,g2,g3,g4,g5,g6,L,u,M⟩:=qV hF hT V S1 hG1 nD fN;obtain⟨k,ca2,Oy,I,w,rfl⟩:=fp L;rw[Gk U J] at G;have ani:=u.obj _ _ _ I G;have⟨S3,E3,as5⟩:=EO (b:=b) (im:=k) u (E1.trans M) I G rfl ani J J S.wf (λy hy O4=>by rw[yW y J,BV,bM J,bM O4]);exact⟨fn,_,n,_,E',g1,g2,g3,g4,g5,g6,CR.vr (.slice (r:=k) (by simp[iC]) w),S3,E3⟩
   .have gP:len<p:=J
    have abT:off+p*o<=r.room:=by rcases Gh.2.1 with e|⟨_,_,_,e⟩;exact absurd e HD;rw[Dl] at e;exact e
    have hmul:(len+1)*o<=p*o:=Gd _ gP;have e1:(len+1)*o=len*o+o:=by rw[qB];omega
    obtain⟨n',v2,xF,V,rfl,QX,JD,yW,s',G⟩:=Ut (F:=F) hf Wi Dk E (h:=kF) (b:=h.ax) (off:=off) (i:=i) (xc:=V') U gP M' QV (by rw[abY];exact abT) hx1 ajz J;have⟨fn,ρ2,n,c,E',g1,g2,g3,g4,g5,g6,L,u,M⟩:=qV hF hT V S1 hG1 nD fN;obtain⟨k,ca2,Oy,I,w,rfl⟩:=fp L;have L:k=C:=by have:=M.le h.ax C (by simp[iC]);rw[this] at I;cases I;rfl
    subst L;rw[Gk U J] at G;have k:=Jn (cs:=cs) (vs:=vs) (off:=off) U hvl J;have⟨L,el2,amc,hw2,C,_,⟨Lk,_⟩,hfr2,u'⟩:=u.obj _ _ _ I G;have C:Y ((cs++q.toList.drop (r.base+r.len)).take off)=off:=by rw[ml,abY];omega
    let ZE:Cn:=⟨r.ch,r.base+off,(len+1)*o,o,r.room-off⟩
    have aAx:SE ρ2 ZE (aQ cs vs off i len o) b9 o n:=by
     refine⟨L,el2,amc,hw2,k.symm,Q,⟨?_,λ_ j c A X=>?_⟩,hfr2,λj v A=>?_⟩;have:r.base+r.room=L.size:=Lk;show r.base+off+(r.room-off)=L.size;omega
     .have A:(len+1)*o<=j:=A;have X:L[r.base+off+j]?=Z c:=X;have c:=(Array.getElem?_eq_some_iff.mp X).1;have c:r.base+r.room=L.size:=Lk;have x:∃v,(q.toList.drop (r.base+r.len))[off+j-Y cs]?=Z v:=aR (q.toList.drop (r.base+r.len)) (off+j-Y cs) (by rw[tK];omega);have⟨v,x⟩:=x;have hC:((cs++q.toList.drop (r.base+r.len)).take off++aQ cs vs off i len o++(cs++q.toList.drop (r.base+r.len)).drop (off+(len+1)*o))[off+j]?=Z v:=by
       rw[Hv (by rw[IA,C,k];omega),IA,C,k,gD,show off+(len+1)*o+(off+j-(off+(len+1)*o))=off+j by omega,Hv J]
       exact x
      have⟨c',c,Bf⟩:=u' _ _ hC;have afA:L[r.base+(off+j)]?=Z c':=c;rw[<-DJ,X] at afA;cases afA;exact To Bf (af0 _ _ x).1
     .have bp:=(cR.mp A).1;have hC:((cs++q.toList.drop (r.base+r.len)).take off++aQ cs vs off i len o++(cs++q.toList.drop (r.base+r.len)).drop (off+(len+1)*o))[off+j]?=Z v:=by rw[Jf (by rw[IA,C];omega),Hv (by rw[C];omega),C,show off+j-off=j by omega];exact A
      have⟨c',c,Bf⟩:=u' _ _ hC;refine⟨c',?_,Bf⟩;rw[<-c];show L[r.base+off+j]?=L[r.base+(off+j)]?;rw[DJ]
    have⟨S3,E3,as5⟩:=EO (b:=b) (im:=ZE) u (E1.trans M) I G rfl aAx J J S.wf (λy hy O4=>by rw[yW y J J,BV,bM J,bM O4]);refine⟨fn,_,n,_,E',g1,g2,g3,g4,g5,g6,CR.vr (.slice (r:=ZE) (by simp[iC]) ⟨.inl ?_,.inr ⟨by show o≠0;omega,?_,?_,?_⟩,fE _⟩),S3,E3⟩;rcases w.1 with e|⟨_,e⟩;rw[e];rfl;omega;rcases w.2.1 with e|⟨e,_⟩;omega;exact absurd rfl e;show 0+(len+1)*o=(len+1)*o;omega
    .have:Oy=p:=by rcases w.2.1 with e|⟨e,_⟩;exact e;exact absurd rfl e
     subst this;show 0+Oy*o<=r.room-off;omega
 by_cases k:i=len;subst k;exact fc (ajG hf hz E wY zB M' O dF g N (S.wf _ _ O));have U:i<len:=J
 rcases zB with e|rfl;exact ft ⟨U,e⟩;have⟨n',v2,xF,V,M,n,c,e,r⟩:=Us (F:=F) (off:=off) (xc:=V') hf hz E wY U M' O J g N XH (S.wf _ _ g) (S.wf _ _ O);exact fc ⟨n',v2,xF,V,M,n,c,λy hy _=>e y hy,r⟩
def K8(o:Nat)(d:List aa)(h:aB):Option (aa×aB):=
 match Wl o d h with
 |some r=>Z r
 |none=>XW o d h
def ahe(c:K8 o d h=Z (v,h')):Wl o d h=Z (v,h')\/XW o d h=Z (v,h'):=by unfold K8 at c;split at c;cases c;exact fc (by assumption);exact ft c
def PD(c:K8 o d h=Z (v,h')):eV h h':=(ahe c).elim adb aca
def ahf(A:Ha P T m (eZ T m) F)(p:eG P T)(c:F f=Z ⟨[.tmp 6],jQ z o a H W,.no⟩)(u:F H=Z fov)(q:fov.Ap=.Rx)(C:Y z=o)(j:0<o)(y:a<=1000):Hc P T m (eZ T m) f (K8 o):=λd h v h' D=>(ahe D).elim (adg A p c u q C j y d h v h') (abE A p c u q C j y d h v h')
def Nc(F:Nat->Option cY)(c o:Nat)(f:Nat):Option cY:=bif ar f c then Z ⟨[],.bad,.run (K8 o) λ_ _ _ _=>PD⟩ else F f
def VO(c:Ha P T m (eZ T m) F)(u:eG P T)(j:F f=Z ⟨[.tmp 6],jQ z o a H W,.no⟩)(A:F H=Z fov)(y:fov.Ap=.Rx)(D:Y z=o)(p:0<o)(q:a<=1000):Ha P T m (eZ T m) (Nc F f o):=by
 intro g C h;unfold Nc at h;cases b:ar g f;rw[b] at h;exact c g C h;rw[b] at h;cases h;rw[qm b];exact ahf c u j A y D p q
def aY.run{F:Nat->Option cY}{f:Nat}{c:List I7}{q:aG}{p:List aa->aB->Option (aa×aB)}{k:∀d h v h',p d h=Z (v,h')->eV h h'}{d:List aa}{h h':aB}{v:aa}{R:aa->aB->Prop}(j:F f=Z ⟨c,q,.run p k⟩)(q:p d h=Z (v,h'))(H:R v h'):aY F f d h R:=
 ⟨0,v,h',by simp only[uw,py,j];exact q,H⟩
end
end Go.AI
namespace Go.AI
open Go.Sort Go.Shelf Go.Proofs
variable{o U args X l a V L z:List aa}{F:Nat->Option cY}{P:b7}{T:tU}{W:c5}{b f g k m n s off:Nat}{q:vd}{e e':Env}{h h' h1:aB}{op:BinOp}{r:Bool}{v B x D:aa}
abbrev SF:=Fin 1000000×(Bool×Int)
def uJ(x:SF):List aa:=[dC ef (x.1.1:Int),dd x.2.1,dC ef x.2.2]
def mG(a:List SF):List aa:=a.flatMap uJ
def RW(x y:SF):Int:=(x.1.1:Int)-(y.1.1:Int)
def Up3(c:List SF):Prop:=c.Pairwise λx y=>x.1.1<y.1.1
def aCJ:SWO (ltOf RW) where
 irrefl x:=by simp[ltOf,RW]
 trans x y z h1 c:=by have h1:=of_decide_eq_true h1;have c:=of_decide_eq_true c;refine decide_eq_true ?_;unfold RW at*;omega
 ntrans x y z h1 c:=by have h1:=of_decide_eq_false h1;have c:=of_decide_eq_false c;refine decide_eq_false ?_;unfold RW at*;omega
def mr:∀a:List SF,Y (mG a)=Y a*3
 |[]=>rfl
 |x::a=>by have:=mr a;show(uJ x++mG a).length=_;simp[uJ,this];omega
def OL:∀ {c j:List SF},mG c=mG j->c=j
 |[],[],_=>rfl
 |[],y::j,h=>by cases h
 |x::c,[],h=>by cases h
 |(a,b,u)::c,(p,C,A)::j,h=>by have h:uJ (a,b,u)++mG c=uJ (p,C,A)++mG j:=h;simp[uJ] at h;have⟨h1,q,D,u⟩:=h;have:a=p:=Fin.ext J;rw[this,q,D,OL u]
def TO:∀(a:List SF)(j:Nat),j<Y a*3->(mG a)[j]?=(uJ (a[j/3]?.getD default))[j%3]?
 |x::a,j,h=>by show(uJ x++mG a)[j]?=_;by_cases c:j<3;rw[Jf (by simpa [uJ] using c),show j/3=0 by omega,show j%3=j by omega];rfl;have e:=TO a (j-3) (by simp at h;omega);rw[Hv (by simp[uJ];omega),show(uJ x).length=3 from Q,e,show j/3=(j-3)/3+1 by omega,show(j-3)%3=j%3 by omega];rfl
def afb(d:Array SF)(j:Nat)(h:j<d.size*3):(mG d.toList)[j]?=Z (flatK uJ 3 d)[j]! :=by
 rw[TO _ _ (ak h),get_flatK _ _ _ _ h];have e:d.toList[j/3]?.getD default=d[j/3]! :=by rw[getElem!_def,Array.getElem?_toList];cases d[j/3]? <;>rfl
 rw[e];generalize d[j/3]! =x;have:j%3<3:=Nat.mod_lt _ J;obtain h|h|h:j%3=0\/j%3=1\/j%3=2:=J
 all_goals rw[h];rfl
def BQ{xs:List SF}(h:v∈mG xs):v.oneCell'=cd/\∀(a:fP)(c:aa),KR a v c↔c=v:=by
 have⟨x,_,h⟩:=List.mem_flatMap.1 h;have b:∀(a:fP)(c:aa),KR a v c↔c=v:=λa c=>by
  simp[uJ] at h;rcases h with rfl|rfl|rfl
  all_goals
   constructor
   .intro k;cases k with
    |cell k=>cases k;rfl
   .rintro rfl
    first|exact .cell (.int _ _)|exact .cell (.bool _)
 refine⟨?_,b⟩;simp[uJ] at h;rcases h with rfl|rfl|rfl<;>rfl
structure alV(g:Nat)(args:List aa)(h h':aB)(b c s o:Nat)(xs ys:List SF):Prop where
 a:args=[c6 (Z ⟨b,0,K⟩) (Y xs) c,.func (.func g) #[] #[]]
 hb:h.tr.get b=Z (.ch (mG xs) b9 o s)
 ne:xs≠[]
 lt:Y xs<1000000
 p:ys.Perm xs
 u:Up3 ys
 w:gq h b 0 (mG ys)=Z h'
open Classical in
noncomputable def MN(g:Nat)(args:List aa)(h:aB):Option (aa×aB):=
 if args=[c6 K 0 0,.func (.func g) #[] #[]] then Z (.tuple #[],h)
 else if H:∃h' b c s o a j,alV g args h h' b c s o a j then Z (.tuple #[],H.choose) else K
def MO(j:MN g args h=Z (v,h')):v=.tuple #[]/\((args=[c6 K 0 0,.func (.func g) #[] #[]]/\h'=h)\/∃b c s o H p,alV g args h h' b c s o H p):=by
 unfold MN at j;split at j;rename_i e;cases j;exact⟨Q,fc ⟨e,Q⟩⟩
 .split at j;rename_i H;have:=H.choose_spec;cases j;exact⟨Q,ft this⟩
  cases j
def MP(j:MN g args h=Z (v,h')):eV h h':=by obtain⟨_,⟨_,rfl⟩|⟨b,c,s,o,S,p,S⟩⟩:=MO j;exact .refl _;exact .write S.w
section
variable{i:dy}{d:fP}{h:aB}{w:c5}
def eQ.grown(S:eQ i d h w)(j:Array Obj):eQ i d h (yt w j)/\Ext d h w d h (yt w j):=by
 have c:∀k,k<w.heap.size->(yt w j).heap[k]?=w.heap[k]? :=λk p=>by show(w.heap++j)[k]?=_;rw[Array.getElem?_append_left p]
 have sz:w.heap.size<=(yt w j).heap.size:=ag
 exact⟨⟨λb r a=>⟨(S.low b r a).1,Jy (S.low b r a).2 sz⟩,λb r o a q=>jg.mono d.le_refl (c _ (S.low b r a).2) (S.obj b r o a q),S.inj,S.wf⟩,⟨d.le_refl,fE _,sz,Q,Q,Q,λk p _=>c k p,λb r a u=>ft ⟨b,r,a,u,Q⟩,λb r h h'=>(by rw[h] at h';cases h'),λb r o a q=>ft ⟨b,r,o,a,q,Q⟩⟩⟩
def adE{C:Ren}(L:SlLaysF0.n6 P C)(l:C.f 6=f)(aE:∀w,(isAgg (C.t 24)).run P w=.ok cd w)(zE:∀w,(Go.sizeOf (C.t 24)).run P w=.ok 3 w)(eg:∀args w,(callFunc g args).run P w=.ok (.enter g args) w)(cl:∀(x F:SF)(W:c5),Calls P g #[eU (uJ x).toArray,eU (uJ F).toArray] W λe z=>e=.returned (dC ef (RW x F))/\∃y H,z=yt (W.drewN y) H)(t:∃fn,P.funcs[f]?=Z fn/\fn.body.isSome=cd/\(fn.name== "runtime.NumGoroutine")=b9):Hc P T s q f (MN g):=by
 intro args h v h' G j d w S y y X;have⟨fn,f1,f2,f3⟩:=t;have D:=MO G;clear G;obtain⟨rfl,G⟩:=D;have N:∀ {M:aa},VR d (.func (.func g) #[] #[]) M->M=.func (.func g) #[] #[]:=λk=>by
  cases k with
  |val k=>cases k with
   |cell k=>cases k with
    |cell k=>cases k
    |fn f k=>cases k;rfl
 rcases G with⟨rfl,rfl⟩|⟨b,M,p,o,u,U,j⟩
 .cases y with
  |cons h1 y=>cases y with
   |cons E y=>cases y with
    |nil=>
     have:=CR.HV h1 rfl;cases this with
     |gE=>
      rw[N E];obtain⟨e,z,O,⟨rfl,rfl⟩,A,C,t⟩:=AnyF.slices_SortFunc_none L K 0 (.func (.func g) #[] #[]) w X;rw[l] at A C;exact⟨fn,d,z,_,O,f1,f2,f3,A,C,t,.tuple .nil,S,.refl _ _ _⟩
 .obtain⟨rfl,B,c,a,hp,hu,a⟩:=j;cases y with
  |cons h1 y=>cases y with
   |cons E y=>cases y with
    |nil=>
     rw[N E];obtain⟨r,p,N,I,y,rfl⟩:=fp h1;have j:0<Y u:=List.length_pos_iff.2 c;have j:p=⟨r.ch,r.base,K⟩:=by rcases y.1 with e|⟨_,e⟩;exact e;have:=y.2.2;omega
     subst j;have⟨y,el,p,Wp,w_,zB,⟨kB,Lp⟩,Wj,c⟩:=S.obj b r _ I B;have j:p=(0,0):=Wj rfl;subst j;have cell:∀j,j<Y u*3->y[r.base+j]?=Z (flatK uJ 3 u.toArray)[j]! :=λj p=>by have e:=afb u.toArray j (ak p);simp only[List.toList_toArray] at e;have⟨M,h1,E⟩:=c j _ e;rw[h1,((BQ (cK e)).2 d M).1 E]
     have H':HoldsK uJ 3 w r.ch r.base u.toArray:=λj p=>by
      have p:j<Y u*3:=ak p
      refine⟨?_,?_⟩;unfold EK;rw[Wp];simpa using cell j p;unfold UX;rw[Wp];simp
     have V:=(S.low b r I).2;obtain⟨e,z,O,⟨rfl,c,n,H,z,hS,rfl⟩,A,C,t⟩:=AnyQ.slices_SortFunc L 3 aE zE uJ (λ_=>rfl) (λx v G=>(BQ (xs:=[x]) (by simpa [mG] using G)).1) RW aCJ g #[] r.ch r.base N u.toArray w eg (λm H G _ x F=>cl x F _) H' V (by simp;omega) X;rw[l] at A C;have G:c.size=Y u:=ak z.1
     have N:c.toList.Perm u:=by have:=z.2.2;rw[show(u.toArray.extract 0 u.toArray.size)=u.toArray by simp,show(c.extract 0 u.toArray.size)=c by rw[show u.toArray.size=c.size from z.1.symm];simp] at this;simpa using this
     have hdu:c.toList=U:=by
      refine List.Perm.eq_of_pairwise (le:=λx F=>x.1.1<=F.1.1) (λx F l z h1 E=>?_) ?_ (hu.imp λh=>uo h) (N.trans hp.symm)
      .have E:=(N.trans hp.symm).subset l;have⟨i,D⟩:=iF E;have⟨j,p⟩:=iF z;have E:=(cR.mp D);have N:=(cR.mp p);rcases Nat.lt_trichotomy i j with h|h|h
       have:=gY.1 hu i j E.1 N.1 h;rw[E.2,N.2] at this;omega;subst h;rw[D] at p;cases p;rfl;have:=gY.1 hu j i N.1 E.1 h;rw[E.2,N.2] at this;omega
      refine gY.2 λi j D p z=>?_;have:=hS i j (kp _) z (by simp at p⊢;omega);simp at D p;rw[getElem!_pos c j p,getElem!_pos c i D] at this;have:=of_decide_eq_false this;unfold RW at this;simp only[Array.getElem_toList];omega
     have F:Y U=Y u:=hp.length_eq;unfold gq at a;rw[B] at a;simp only[mr] at a;rw[bH (by rw[F];simp)] at a;cases a;have E:bg (mG u) 0 (mG U)=mG U:=by unfold bg;rw[oj,Gb (by simp[mr,F])];simp
     rw[E];have z:(flatK uJ 3 c).size=Y u*3:=by simp[G]
     have⟨a,N⟩:=S.drawn (w.drawn+n) |>.uY (w':=putRowK uJ 3 (An w n) r.ch r.base c) (o':=.ch (mG U) b9 o h.clock) I B rfl ⟨Q,Q,Q,by simp[putRowK,putRow,mapBlock,An],λj p=>by simp[putRowK,putRow,mapBlock,An,Dj,a7 p]⟩ (by
      refine⟨putCells id r.base (flatK uJ 3 c) y,el,(0,0),?_,by rw[w_,mr,mr,F],zB,⟨by rw[kB];simp[putCells],λI j M p A=>?_⟩,λ_=>rfl,λj v p=>?_⟩;simp[putRowK,putRow,mapBlock,An,Dj,Wp,onCells];refine Lp I j M p ?_;rw[w_,mr] at p;simp only[putCells,Dm] at A;rcases l:y[r.base+j]? with _|x;rw[l] at A;cases A;rw[l] at A;simp only[zz] at A;rwa [bM (by rw[z];omega)] at A
      .have E:j<Y u*3:=by have:=(cR.mp p).1;rw[mr,F] at this;exact this
       have e:=afb c j (by rw[G];exact E);rw[hdu,p] at e;refine⟨v,?_,((BQ (cK p)).2 d v).2 Q⟩;simp only[putCells,Dm];have p:=cell j E;rw[p];simp only[zz];rw[bH (by rw[z];omega),Nat.add_sub_cancel_left];simp[<-bI e]) (h.clock+1)
     have⟨z,j⟩:=a.grown H;exact⟨fn,d,_,_,O,f1,f2,f3,A,C,t,.tuple .nil,z,((Ext.drawn (w.drawn+n)).trans N).trans j⟩
end
noncomputable def Nd(F:Nat->Option cY)(a g:Nat)(f:Nat):Option cY:=bif ar f a then Z ⟨[],.bad,.run (MN g) λ_ _ _ _=>MP⟩ else F f
def VP{a g:Nat}(j:Ha P T s q F)(c:Hc P T s q a (MN g)):Ha P T s q (Nd F a g):=by intro f p h;unfold Nd at h;cases b:ar f a;rw[b] at h;exact j f p h;rw[b] at h;cases h;rw[qm b];exact c
def Kept(W c:c5):Prop:=c.os=W.os/\c.output=W.output/\W.heap.size<=c.heap.size/\∀i,i<W.heap.size->c.heap[i]?=W.heap[i]?
def Kept.keptBut{W j:c5}(h:Kept W j)(c:EL->Prop):W.keptBut j c:=by
 refine⟨h.1,h.2.1,λi p=>?_⟩;rw[h.2.2.2 i p];rcases A:W.heap[i]? with _|o;rfl
 .cases o with
  |cells u t C=>exact⟨Q,Q,Q,λ_ _=>rfl⟩
  |map y q=>exact ft ⟨Q,Q⟩
  |_=>rfl
def Kept.sameAt{W j:c5}(h:Kept W j){p:EL}(c:p.block<W.heap.size):W.sameAt j p:=by
 cases p with
 |cell b off=>simp only[World.sameAt,EK,h.2.2.2 b c]
 |map b=>exact h.2.2.2 b c
def Kept.frozen{W c:c5}(h:Kept W c){b off:Nat}(a:b<W.heap.size):c.frozen? ⟨b,off,K⟩=W.frozen? ⟨b,off,K⟩:=by simp only[UX,h.2.2.2 b a]
section
variable{P:b7}{T:tU}{s:Nat}{F:Nat->Option cY}
def law_read(D:Ha P T s (eZ T s) F)(y:eG P T){args p:List aa}(H:aY F f args h (λv _=>v=dd cd)){j:fP}(S:eQ (iD T s (eZ T s)) j h W)(N:d_ s j)(M:bQ (VR j) args p)(I:∀b,¬fU h b):Calls P f ⟨p⟩ W (λe U=>e=.returned (dd cd)/\Kept W U):=by
 obtain⟨n,v,h',p,rfl⟩:=H;intro H;obtain⟨j,V,q,c,E,_,_,_,u,C,O,A,_,j⟩:=qV D y p S N M H;have S:=A.pP;subst S;exact⟨.returned (dd cd),q,E,⟨Q,j.os,j.output,j.size,λi M=>j.yZ i M (λb r _ G=>absurd G (I b))⟩,u,C,O⟩
end
section
open Go.ChangeShapes Go.WideShapes Go.ChangeAt
variable{H:Type}{d:e7×aa->H}{P:b7}
def post_of_read{f:Func}{s:ChangeSpec}{u A q C:Bool}{W E:c5}{args:Array aa}{e a:List (K6 H)}{c:List EL}(I:DataW.Whole d P f.params.toList s.vars u W args.toList e a c)(h:∀(b:Nat)(D:Nat->Bool)(N:Bool),V7 d P E b D N f.resultTypes.toList (v.resultList f.resultTypes.size) (s.fn H (e++a)).results [])(M:∀D:Nat->Bool,(∀p∈c,D p.block=cd)->V7 d P E 0 D cd f.params.toList args.toList (s.fn H (e++a)).args c)(G:∀D:Nat->Bool,(∀p∈c,D p.block=cd)->DataW.TrodVars d P E D s.vars (s.fn H (e++a)).vars [])(g:Kept W E)(O:∀(j:Nat)(t:e7)(r:aa),f.resultTypes[j]?=Z t->(v.resultList f.resultTypes.size)[j]?=Z r->w3 P E .any 0 t r):s.post d P f u A q C W args v E:=by
 have A:∀p∈c,(λb=>decide (b<W.heap.size)) p.block=cd:=λp y=>ak (I.lt p y)
 refine⟨e,a,c,[],c,[],I,h _ _ _,M _ A,G _ A,World.keptBut_mono (λp y=>⟨y,ft (fc y)⟩) (g.keptBut _),λ_=>?_⟩;have A:=I.lt;have⟨_,_,_,_,_,V,U⟩:=I;refine⟨O,_,_,([]++c)++[],⟨[]++c,[],trodAll_append (M _ (λ_ _=>rfl)) (h _ _ _),G _ (λ_ _=>rfl),Q,?_,?_⟩,?_⟩
 intro b off y;simp only[z1,ye] at y;rw[g.frozen (b:=b) (A (.cell b off) y)];exact V b off y;intro A;simpa using U A;intro p y _;simpa using y
end
structure Sf where
 n:Nat
 d:Nat
 dc:Nat
 D:Nat->Prop
 fk:Nat->Bool
 gk:Nat->Bool
 new:∀b,n<=b->D b
 gl:∀g,gk g=cd->g<n/\D g
def Sf.sh(S:Sf)(b:Nat):Nat:=if b<S.n then b else b+S.d
def Sf.Zn(S:Sf){a b:Nat}(h:S.sh a=S.sh b):a=b:=by unfold Sf.sh at h;(repeat' split at h)<;>omega
inductive VS(S:Sf):aa->aa->Prop
 |bool (b:Bool):VS S (dd b) (dd b)
 |int (k:nH) (m:Int):VS S (.int k m) (.int k m)
 |str (s:ByteArray):VS S (eT s) (eT s)
 |yo:VS S (dB K) (dB K)
 |ptr {b:Nat} (o:Nat) (h:S.D b):VS S (dB (Z ⟨b,o,K⟩)) (dB (Z ⟨S.sh b,o,K⟩))
 |gE (l c:Nat):VS S (c6 K l c) (c6 K l c)
 |slice {b:Nat} (o l c:Nat) (h:S.D b):VS S (c6 (Z ⟨b,o,K⟩) l c) (c6 (Z ⟨S.sh b,o,K⟩) l c)
 |wa:VS S (.map K) (.map K)
 |chan (c:Option Nat):VS S (.chan c) (.chan c)
 |uQ:VS S .nilFunc .nilFunc
 |pY:VS S .nilIface .nilIface
 |fn {f:Nat} {a a' b b':List aa} (hf:S.fk f=cd) (h1:bQ (VS S) a a') (h2:bQ (VS S) b b'):VS S (.func (.func f) ⟨a⟩ ⟨b⟩) (.func (.func f) ⟨a'⟩ ⟨b'⟩)
 |yield {l:Nat} (h:S.D l):VS S (.func (.yield l) #[] #[]) (.func (.yield (S.sh l)) #[] #[])
 |agg {a a':List aa} (h:bQ (VS S) a a'):VS S (eU ⟨a⟩) (eU ⟨a'⟩)
 |tuple {a a':List aa} (h:bQ (VS S) a a'):VS S (.tuple ⟨a⟩) (.tuple ⟨a'⟩)
def UP:aa->Bool
 |dd _=>cd
 |.int _ _=>cd
 |eT _=>cd
 |dB K=>cd
 |c6 K _ _=>cd
 |.map K=>cd
 |.nilFunc=>cd
 |.nilIface=>cd
 |_=>b9
def okV:aa->Bool
 |eU X=>X.toList.all UP
 |.tuple X=>X.toList.all UP
 |v=>UP v
section
variable{S:Sf}
def YH(h:UP v=cd):VS S v v:=by unfold UP at h;split at h;exact .bool _;exact .int _ _;exact .str _;exact .yo;exact .gE _ _;exact .wa;exact .uQ;exact .pY;cases h
def Ak:∀ {l:List aa},l.all UP=cd->bQ (VS S) l l
 |[],_=>.nil
 |v::l,h=>by rw[gF,pU] at h;exact .cons (YH h.1) (Ak h.2)
def aog(h:okV v=cd):VS S v v:=by unfold okV at h;split at h;rename_i X;have⟨l⟩:=X;exact .agg (Ak h);rename_i X;have⟨l⟩:=X;exact .tuple (Ak h);exact YH h
def Cc(S:Sf):aU->Bool
 |.tmp _=>cd
 |.const v=>okV v
 |.global g=>S.gk g
 |.func f=>S.fk f
def ajZ(S:Sf)(l:List aU):Bool:=l.all (Cc S)
def okP(S:Sf)(l:List (Nat×Nat×aU)):Bool:=l.all λx=>Cc S x.2.2
def okQ(S:Sf):Option aU->Bool
 |none=>cd
 |some x=>Cc S x
def ES(S:Sf)(e e':Env):Prop:=∀t,VS S (bX e t) (bX e' t)
def ES.set{e e':Env}(w:ES S e e'){v B:aa}(h:VS S v B)(t:Nat):ES S (Tr.set e t v) (Tr.set e' t B):=λu=>by rw[Env.bS,Env.bS];split;exact h;exact w u
def ES.put(w:ES S e e')(h:VS S v B):∀t,ES S (gG e t v) (gG e' t B)
 |none=>w
 |some t=>w.set h t
def VS.undef:VS S (.tuple #[]) (.tuple #[]):=.tuple .nil
def ES.nil:ES S .nil .nil:=λ_=>VS.undef
def ES.ev{e e':Env}(w:ES S e e'){x:aU}(h:Cc S x=cd):VS S (AI.ev e x) (AI.ev e' x):=by
 cases x with
 |tmp t=>exact w t
 |const v=>exact aog h
 |global g=>
  have:=S.gl g h;have c:S.sh g=g:=by unfold Sf.sh;rw[bH this.1]
  have r:=VS.ptr (S:=S) (b:=g) 0 this.2;rw[c] at r;exact r
 |func f=>exact .fn h .nil .nil
def ES.qi{e e':Env}(w:ES S e e'):∀ {l:List aU},ajZ S l=cd->bQ (VS S) (AI.qi e l) (AI.qi e' l)
 |[],_=>.nil
 |x::l,h=>by unfold ajZ at h;rw[gF,pU] at h;exact .cons (w.ev h.1) (ES.qi w h.2)
end
def pd(S:Sf):kD->Bool
 |.mv x=>Cc S x
 |.pick c a b=>Cc S c&&Cc S a&&Cc S b
 |.alloc z=>z.all UP
 |.box x=>Cc S x
 |.build z p=>z.all UP&&okP S p
 |.fC _ z p=>z.all UP&&okP S p
 |.load _ a=>Cc S a
 |.store _ a v=>Cc S a&&Cc S v
 |.Aj x=>Cc S x
 |.bin _ _ x y=>Cc S x&&Cc S y
 |.un _ x=>Cc S x
 |.conv _ x=>Cc S x
 |.uP f j=>S.fk f&&ajZ S j
 |.iO z _ l c=>z.all UP&&Cc S l&&Cc S c
 |.slice _ x a b c=>Cc S x&&okQ S a&&okQ S b&&okQ S c
 |.cD _ x=>Cc S x
 |.ee _ _ x i=>Cc S x&&Cc S i
 |.index _ x i=>Cc S x&&Cc S i
 |.ext _ x=>Cc S x
 |.call f args=>Cc S f&&ajZ S args
 |.ox x=>Cc S x
 |.MM x=>Cc S x
 |.append z _ _ s x=>z.all UP&&Cc S s&&Cc S x
 |.copy _ d s=>Cc S d&&Cc S s
 |.bad=>cd
 |_=>b9
def N9(S:Sf):aG->Bool
 |.skip=>cd
 |.ops l=>l.all λo=>pd S o.op
 |.draw l=>l.all λo=>pd S o.1.op
 |.seq a b=>N9 S a&&N9 S b
 |.cond c a b=>Cc S c&&N9 S a&&N9 S b
 |.block _ c=>N9 S c
 |.loop c=>N9 S c
 |.RO f _ a b=>Cc S f&&N9 S a&&N9 S b
 |.exit _=>cd
 |.ret=>cd
 |.bad=>cd
inductive OS(S:Sf):qo->qo->Prop
 |ch {a a':List aa} (ro:Bool) (o:Nat) {s s':Nat} (h:bQ (VS S) a a') (hs:s'<=s+S.dc):OS S (.ch a ro o s) (.ch a' ro o s')
 |loop {e e':Env} (ps:List Nat) {asg body:aG} (st:Wz) (h:ES S e e') (h1:N9 S asg=cd) (h2:N9 S body=cd):OS S (.loop e ps asg body st) (.loop e' ps asg body st)
 |aFs:OS S (.map []) (.map [])
structure HS(S:Sf)(h h':aB):Prop where
 n:S.n<=h.ax
 ax:h'.ax=h.ax+S.d
 clock:h'.clock=h.clock+S.dc
 at_:∀b o,S.D b->h.tr.get b=Z o->(∃es,o=.map es/\es≠[])\/∃o',h'.tr.get (S.sh b)=Z o'/\OS S o o'
section
variable{S:Sf}{h h' h1:aB}
def HS.ch(w:HS S h h'){b:Nat}(p:S.D b){a:List aa}{c:Bool}{o s:Nat}(u:h.tr.get b=Z (.ch a c o s)):∃j d,h'.tr.get (S.sh b)=Z (.ch j c o d)/\bQ (VS S) a j/\d<=s+S.dc:=by
 rcases w.at_ b _ p u with⟨y,e,_⟩|⟨A,q,r⟩;cases e
 .cases r with
  |ch c o h u=>exact⟨_,_,q,h,u⟩
def HS.RL(w:HS S h h'):S.sh h.ax=h'.ax:=by unfold Sf.sh;rw[bM (aw w.n),w.ax]
def HS.dn(w:HS S h h'):S.D h.ax:=S.new _ w.n
def HS.set(w:HS S h h'){b:Nat}{o a:qo}(r:OS S o a)(k:Nat):HS S {h with clock:=h.clock+k,tr:=h.tr.set b o} {h' with clock:=h'.clock+k,tr:=h'.tr.set (S.sh b) a} :=by refine⟨w.n,w.ax,by dsimp only;rw[w.clock];omega,λc x p j=>?_⟩;dsimp only at j⊢;rw[Tr.bS] at j;rw[Tr.bS];by_cases e:c=b;subst e;rw[bH rfl] at j;cases j;exact ft ⟨a,by rw[bH rfl],r⟩;rw[bM e] at j;rw[bM (λq=>e (S.Zn q))];exact w.at_ c x p j
def HS.auM(w:HS S h h'){o a:qo}(r:OS S o a):HS S {h with tr:=h.tr.set b o} {h' with tr:=h'.tr.set (S.sh b) a} :=by have:=w.set (b:=b) r 0;simpa using this
def HS.del(w:HS S h h')(b:Nat):HS S {h with tr:=h.tr.del b} {h' with tr:=h'.tr.del (S.sh b)} :=by refine⟨w.n,w.ax,w.clock,λc x p j=>?_⟩;dsimp only at j⊢;rw[Tr.iw] at j;rw[Tr.iw];by_cases e:c=b;rw[bH e] at j;cases j;rw[bM e] at j;rw[bM (λq=>e (S.Zn q))];exact w.at_ c x p j
def HS.new(w:HS S h h'){o a:qo}(r:OS S o a):HS S (h.new o) (h'.new a):=by refine⟨Nat.le_succ_of_le w.n,by show h'.ax+1=h.ax+1+S.d;rw[w.ax];omega,w.clock,λc x p j=>?_⟩;unfold aB.new at j⊢;dsimp only at j⊢;rw[Tr.bS] at j;rw[Tr.bS,<-w.RL];by_cases e:c=h.ax;subst e;rw[bH rfl] at j;cases j;exact ft ⟨a,by rw[bH rfl],r⟩;rw[bM e] at j;rw[bM (λq=>e (S.Zn q))];exact w.at_ c x p j
def HS.aM(w:HS S h h'){a c:List aa}(r:bQ (VS S) a c)(o:Nat):HS S (AI.aM h a o) (AI.aM h' c o):=w.new (.ch b9 o r (kp _))
def HS.ptr(w:HS S h h')(o:Nat):VS S (dB (Z ⟨h.ax,o,K⟩)) (dB (Z ⟨h'.ax,o,K⟩)):=by have:=VS.ptr (S:=S) o w.dn;rwa [w.RL] at this
def HS.slice(w:HS S h h')(o l c:Nat):VS S (c6 (Z ⟨h.ax,o,K⟩) l c) (c6 (Z ⟨h'.ax,o,K⟩) l c):=by have:=VS.slice (S:=S) o l c w.dn;rwa [w.RL] at this
def HS.tick(w:HS S h h'):HS S {h with clock:=h.clock+1} {h' with clock:=h'.clock+1} :=⟨w.n,w.ax,by show h'.clock+1=h.clock+1+S.dc;rw[w.clock];omega,w.at_⟩
def CN(w:HS S h h')(p:S.D b)(c:cC h b off m=Z X):∃L,cC h' (S.sh b) off m=Z L/\bQ (VS S) X L:=by
 unfold cC at c⊢;split at c
 .rename_i a C o s j;have⟨A,y,u,r,_⟩:=w.ch p j;rw[u];dsimp only at c⊢;have j:=(r.drop off).take m;rw[<-j.length];split at c
  rename_i q;cases c;rw[bH q];exact⟨_,Q,j⟩;cases c
 cases c
def PI{a c V U:List aa}(r:bQ (VS S) a c)(q:bQ (VS S) V U)(off:Nat):bQ (VS S) (bg a off V) (bg c off U):=by unfold bg;rw[<-q.length];exact((r.take off).app q).app (r.drop _)
def Fh(w:HS S h h')(p:S.D b)(q:bQ (VS S) V U)(c:gq h b off V=Z h1):∃j,gq h' (S.sh b) off U=Z j/\HS S h1 j:=by unfold gq at c⊢;split at c;rename_i a o s j;have⟨C,A,y,r,_⟩:=w.ch p j;rw[y];dsimp only at c⊢;rw[<-q.length,<-r.length];split at c;rename_i u;cases c;rw[bH u];exact⟨_,Q,w.set (.ch b9 o (PI r q off) (by rw[w.clock];exact fE _)) 1⟩;cases c;cases c
def VS.plain{v B:aa}(r:VS S v B):AI.plain B=AI.plain v:=by cases r<;>rfl
def VS.simple{v B:aa}(r:VS S v B):AI.simple B=AI.simple v:=by cases r<;>rfl
def VS.rR{v B:aa}(r:VS S v B):AI.rR B=AI.rR v:=by cases r<;>rfl
def WE{p:aa->Bool}(c:∀v B,VS S v B->p B=p v)(r:bQ (VS S) l a):a.all p=l.all p:=by
 induction r with
 |nil=>rfl
 |cons x _ b=>rw[gF,gF,b,c _ _ x]
def VS.cells(r:VS S v B):bQ (VS S) (cellsOf v) (cellsOf B):=by
 cases r with
 |agg h=>exact h
 |bool b=>exact .cons (.bool b) .nil
 |int k m=>exact .cons (.int k m) .nil
 |str s=>exact .cons (.str s) .nil
 |yo=>exact .cons .yo .nil
 |ptr o h=>exact .cons (.ptr o h) .nil
 |gE l c=>exact .cons (.gE l c) .nil
 |slice o l c h=>exact .cons (.slice o l c h) .nil
 |wa=>exact .cons .wa .nil
 |chan c=>exact .cons (.chan c) .nil
 |uQ=>exact .cons .uQ .nil
 |pY=>exact .cons .pY .nil
 |fn p h1 j=>exact .cons (.fn p h1 j) .nil
 |yield h=>exact .cons (.yield h) .nil
 |tuple h=>exact .cons (.tuple h) .nil
def QH(r:VS S v B)(c:flat v=Z V):∃U,flat B=Z U/\bQ (VS S) V U:=by
 unfold flat at c⊢;have e:=WE (p:=AI.plain) (λ_ _ r=>r.plain) r.cells;rw[e];cases j:(cellsOf v).all AI.plain
 rw[j] at c;cases c;rw[j] at c;cases c;exact⟨_,Q,r.cells⟩
def WD{n:Option Nat}(r:bQ (VS S) X L)(a:agg n X=Z v):∃B,agg n L=Z B/\VS S v B:=by unfold agg at a⊢;rcases n with _|n;dsimp only at a⊢;rcases r with _|⟨x,q⟩;cases a;rcases q with _|⟨_,_⟩;cases a;exact⟨_,Q,x⟩;cases a;dsimp only at a⊢;rw[<-r.length];split at a;rename_i c;cases a;rw[bH c];exact⟨_,Q,.agg r⟩;cases a
def Hs{e e':Env}(w:ES S e e'):∀ {p:List (Nat×Nat×aU)} {X L r:List aa},okP S p=cd->bQ (VS S) X L->oM e X p=Z r->∃y,oM e' L p=Z y/\bQ (VS S) r y
 |[],X,L,r,_,q,c=>by cases c;exact⟨_,Q,q⟩
 |(off,n,x)::p,X,L,r,j,q,c=>by unfold okP at j;rw[gF,pU] at j;unfold oM at c⊢;rcases u:flat (AI.ev e x) with _|V;rw[u] at c;cases c;rw[u] at c;have⟨U,D,A⟩:=QH (w.ev j.1) u;rw[D];dsimp only at c⊢;rw[<-A.length,<-q.length];split at c;rename_i C;rw[bH C];exact Hs w j.2 (PI q A off) c;cases c
def RG{z:List aa}(c:z.all UP=cd):∀n,bQ (VS S) (jG z n) (jG z n)
 |0=>.nil
 |n+1=>(Ak c).app (RG c n)
end
section
variable{S:Sf}{h h' h1:aB}
def OF{a q b u:aa}(p:VS S a q)(j:VS S b u)(c:jv k a b=Z r):jv k q u=Z r:=by unfold jv at c;split at c;cases p;cases j;exact c;cases p;cases j;exact c;cases p;cases j;exact c;cases c
def KF:∀ {d:List Nat} {a A b C:List aa} {r:Bool},bQ (VS S) a A->bQ (VS S) b C->di d a b=Z r->di d A C=Z r
 |[],_,_,_,_,_,.nil,.nil,c=>c
 |[],_,_,_,_,_,.cons _ _,_,c=>by simp[di] at c
 |[],_,_,_,_,_,.nil,.cons _ _,c=>by simp[di] at c
 |_::_,_,_,_,_,_,.nil,_,c=>by simp[di] at c
 |_::_,_,_,_,_,_,.cons _ _,.nil,c=>by simp[di] at c
 |k::d,_,_,_,_,r,.cons x C,.cons y E,c=>by rename_i u I D G v B V U;unfold di at c⊢;rcases h1:jv k u v with _|p;simp only[h1] at c;cases c;rcases j:di d D V with _|q;simp only[h1,j] at c;cases c;simp only[h1,j] at c;simp only[OF x y h1,KF C E j];exact c
def TB{d:List Nat}{a u b y:aa}(j:VS S a u)(p:VS S b y)(c:xz d a b=Z r):xz d u y=Z r:=by
 unfold xz at c;split at c
 .cases j with
  |agg y=>
   cases p with
   |agg u=>
    unfold xz;dsimp only at c⊢;split at c;exact KF y u c;cases c
 .rename_i G;split at c;split at c;cases j;cases p<;>exact c;cases j;cases p;exact c;cases c;split at c;cases j;cases p<;>exact c;cases j;cases p;exact c;cases c;split at c;cases j;cases p<;>exact c;cases j;cases c;split at c;cases j;cases p;exact c;cases j;cases p<;>exact c;cases j<;>cases p<;>exact c;cases c
  .rename_i k A E D C;have q:=OF j p c;unfold jv at c;split at c
   cases j;cases p;exact q;cases j;cases p;exact q;cases j;cases p;exact q;cases c
  cases c
def CF{k:nH}{a b:Int}(c:jS op k a b=Z v):VS S v v:=by
 unfold jS at c;split at c
 all_goals first
  |(cases c<;>first|exact .int _ _|exact .bool _)
  |(split at c<;>cases c<;>first|exact .int _ _|exact .bool _)
def I3{k:nH}{a b:Int}(c:nZ op k a b=Z v):VS S v v:=by unfold nZ at c;split at c;cases c;split at c;cases c;exact .int _ _;cases c;exact .int _ _;cases c
def aiE{n:List Nat}{x D y p v:aa}(c:VS S x D)(j:VS S y p)(a:FD op n x y=Z v):FD op n D p=Z v/\VS S v v:=by
 cases op with
 |eql=>
  simp only[FD] at a⊢;split at a;cases c;cases j;split at a;rename_i p;exact⟨by dsimp only;rw[bH p];exact a,CF a⟩;cases a
  .rename_i A;rcases q:xz n x y with _|r;rw[q] at a;cases a
   .rw[q] at a;have u:=TB c j q;cases a;refine⟨?_,.bool _⟩;split
    cases c;cases j;exact(A _ _ _ _ Q Q).elim;rw[u]
 |neq=>
  simp only[FD] at a⊢;split at a;cases c;cases j;split at a;rename_i p;exact⟨by dsimp only;rw[bH p];exact a,CF a⟩;cases a
  .rename_i A;rcases q:xz n x y with _|r;rw[q] at a;cases a
   .rw[q] at a;have u:=TB c j q;cases a;refine⟨?_,.bool _⟩;split
    cases c;cases j;exact(A _ _ _ _ Q Q).elim;rw[u]
 |gtr=>
  simp only[FD] at a⊢;split at a;cases c;cases j;split at a;rename_i p;exact⟨by dsimp only;rw[bH p];exact a,CF a⟩;cases a;cases c;cases j;split at a;rename_i p;cases a;exact⟨by dsimp only;rw[bH p],.bool _⟩;cases a;cases a
 |shl=>
  simp only[FD] at a⊢;split at a;cases c;cases j;exact⟨a,I3 a⟩;cases a
 |shr=>
  simp only[FD] at a⊢;split at a;cases c;cases j;exact⟨a,I3 a⟩;cases a
 |_=>
  simp only[FD] at a⊢;split at a;cases c;cases j;split at a;rename_i p;exact⟨by dsimp only;rw[bH p];exact a,CF a⟩;cases a;cases a
def aoY{op:UnOp}(c:VS S x D)(a:XS op x=Z v):XS op D=Z v/\VS S v v:=by unfold XS at a;split at a;cases c;cases a;exact⟨Q,.int _ _⟩;cases c;cases a;exact⟨Q,.int _ _⟩;cases c;cases a;exact⟨Q,.bool _⟩;cases a
def Kh(w:ES S e e'){x:Option aU}(q:okQ S x=cd){c j r:Nat}(a:bound e x c j=Z r):bound e' x c j=Z r:=by rcases x with _|x;exact a;have p:=w.ev (x:=x) q;unfold bound at a⊢;dsimp only at a⊢;generalize AI.ev e x=u at*;generalize AI.ev e' x=u' at*;split at a;cases p;exact a;cases a
def ajR(w:HS S h h')(C:z.all UP=cd){u:Bool}(q:VS S x D)(c:news h z u x=Z (n,X)):∃L,news h' z u D=Z (n,L)/\bQ (VS S) X L:=by unfold news at c;split at c;cases q;split at c;rename_i j;cases c;exact⟨_,by simp[news,j],RG C _⟩;cases c;cases q;split at c;rename_i j;cases c;exact⟨[],by simp[news,j],.nil⟩;cases c;cases q;rename_i y;split at c;rename_i j;cases c;exact⟨[],by simp[news,j],.nil⟩;rename_i j;split at c;rename_i p;cases c;have⟨L,A,r⟩:=CN w y p;exact⟨L,by unfold news;simp only[j,A];rfl,r⟩;cases c;cases c
def WJ(w:HS S h h'){p:Nat}{s G:aa}(N:VS S s G)(D:bQ (VS S) X L)(c:dz h z p s n X=Z (v,h1)):∃B U,dz h' z p G n L=Z (B,U)/\VS S v B/\HS S h1 U:=by
 unfold dz at c;split at c
 .rename_i a M p;split at c
  .rename_i q;split at c
   .rename_i p;split at c
    .rename_i y;cases c;cases N with
     |gE=>exact⟨_,_,by simp[dz,q,p,y],.gE _ _,w⟩
     |slice o l j u=>exact⟨_,_,by simp[dz,q,p,y],.slice _ _ _ u,w⟩
    cases c
   .rename_i p;split at c
    .rename_i C;split at c;cases N;split at c;rename_i y;cases c;exact⟨_,_,by unfold dz;dsimp only;rw[bH q,bM p,bH C,bH y],w.slice _ _ _,w.aM D _⟩;cases c
     .rename_i b off;cases N with
      |slice o l j u=>
      split at c
      .rename_i j o s j;obtain⟨N,G,N,I,_⟩:=w.ch u j;split at c;rename_i j;rcases G:gq h b (off+M*Y z) X with _|E;rw[G] at c;cases c;rw[G] at c;cases c;obtain⟨E,E,A⟩:=Fh w u D G;exact⟨_,_,by unfold dz;dsimp only;rw[bH q,bM p,bH C,N];dsimp only;rw[bH j,E],.slice _ _ _ u,A⟩
       .rename_i j;have A:=(I.drop off).take (M*Y z);dsimp only at c;split at c
        rename_i V;split at c;rename_i M;cases c;exact⟨_,_,by unfold dz;dsimp only;rw[bH q,bM p,bH C,N];dsimp only;rw[bM j,<-A.length,bH V,<-I.length,bH M],w.slice _ _ _,w.aM (A.app D) _⟩;rename_i M;split at c;rename_i O;cases c;exact⟨_,_,by unfold dz;dsimp only;rw[bH q,bM p,bH C,N];dsimp only;rw[bM j,<-A.length,bH V,<-I.length,bM M,bH O],w.slice _ _ _,(w.del b).aM (A.app D) _⟩;cases c;cases c
      cases c
     cases c
    cases c
  cases c
 cases c
end
section
variable{S:Sf}{h h' h1:aB}{e e':Env}
def aoj(w:HS S h h')(A:ES S e e'){op:kD}(q:pd S op=cd)(j:dh e h op=Z (v,h1)):∃B i,dh e' h' op=Z (B,i)/\VS S v B/\HS S h1 i:=by
 cases op with
 |mv x=>cases j;exact⟨_,_,Q,A.ev q,w⟩
 |pick p a b=>
  simp only[pd,pU] at q;have d:=A.ev q.1.1;simp only[dh] at j⊢;generalize ev e p=u at*;generalize ev e' p=u' at*;split at j
  cases d;cases j;exact⟨_,_,Q,A.ev q.1.2,w⟩;cases d;cases j;exact⟨_,_,Q,A.ev q.2,w⟩;cases j
 |alloc z=>cases j;exact⟨_,_,Q,w.ptr 0,w.aM (Ak q) 0⟩
 |box x=>
  have C:=A.ev (x:=x) q;simp only[dh] at j⊢;rcases D:flat (ev e x) with _|V;rw[D] at j;cases j;rw[D] at j;have⟨U,O,r⟩:=QH C D;rw[O];cases j;exact⟨_,_,Q,w.ptr 0,w.aM r 0⟩
 |build z F=>
  simp only[pd,pU] at q;simp only[dh] at j⊢;rcases D:oM e z F with _|X;rw[D] at j;cases j;rw[D] at j;have⟨L,O,r⟩:=Hs A q.2 (Ak q.1) D;rw[O];cases j;exact⟨_,_,Q,.agg r,w⟩
 |fC n z F=>
  simp only[pd,pU] at q;simp only[dh] at j⊢;rcases D:oM e z F with _|X;rw[D] at j;cases j;rw[D] at j;have⟨L,O,r⟩:=Hs A q.2 (Ak q.1) D;rw[O];cases j;exact⟨_,_,Q,w.slice 0 n n,w.aM r 0⟩
 |load n a=>
  have F:=A.ev (x:=a) q;simp only[dh] at j⊢;generalize ev e a=u at*;generalize ev e' a=u' at*;split at j
  .rename_i b off;cases F with
   |ptr o E=>
    rcases y:cC h b off (width n) with _|X;rw[y] at j;cases j;rw[y] at j;have⟨L,NT,r⟩:=CN w E y;dsimp only at j⊢;rw[NT];dsimp only;rcases M:agg n X with _|v2;rw[M] at j;cases j;rw[M] at j;have⟨U',I,G⟩:=WD r M;rw[I];cases j;exact⟨_,_,Q,G,w⟩
  cases j
 |store n a x=>
  simp only[pd,pU] at q;have F:=A.ev q.1;have C:=A.ev q.2;simp only[dh] at j⊢;generalize ev e a=u at*;generalize ev e' a=u' at*;split at j
  .rename_i b off;cases F with
   |ptr o E=>
    rcases D:flat (ev e x) with _|V;rw[D] at j;cases j;rw[D] at j;have⟨U,O,r⟩:=QH C D;dsimp only at j⊢;rw[O];dsimp only;rw[<-r.length];split at j;rename_i F;rw[bH F];rcases F:gq h b off V with _|H;rw[F] at j;cases j;rw[F] at j;have⟨N,T,w2⟩:=Fh w E r F;rw[T];cases j;exact⟨_,_,Q,VS.undef,w2⟩;cases j
  cases j
 |Aj x=>
  have C:=A.ev (x:=x) q;simp only[dh] at j⊢;generalize ev e x=u at*;generalize ev e' x=u' at*;split at j
  .cases C with
   |ptr o E=>cases j;exact⟨_,_,Q,.ptr o E,w⟩
  cases j
 |bin op n x O=>
  simp only[pd,pU] at q;simp only[dh] at j⊢;rcases g:FD op n (ev e x) (ev e O) with _|r;rw[g] at j;cases j;rw[g] at j;have⟨O,c⟩:=aiE (S:=S) (A.ev q.1) (A.ev q.2) g;rw[O];cases j;exact⟨_,_,Q,c,w⟩
 |un op x=>
  simp only[dh] at j⊢;rcases g:XS op (ev e x) with _|r;rw[g] at j;cases j;rw[g] at j;have⟨O,c⟩:=aoY (S:=S) (A.ev (x:=x) q) g;rw[O];cases j;exact⟨_,_,Q,c,w⟩
 |conv k x=>
  have C:=A.ev (x:=x) q;simp only[dh] at j⊢;generalize ev e x=u at*;generalize ev e' x=u' at*;split at j;cases C;cases j;exact⟨_,_,Q,.int _ _,w⟩;cases j
 |uP f P=>
  simp only[pd,pU] at q;have d:=A.qi q.2;simp only[dh] at j⊢;rw[WE (p:=AI.simple) (λ_ _ r=>r.simple) d];cases c:(qi e P).all AI.simple
  rw[c] at j;cases j;rw[c] at j;cases j;exact⟨_,_,Q,.fn q.1 .nil d,w⟩
 |iO z bytes l p=>
  simp only[pd,pU] at q;have c:=A.ev q.1.2;have d:=A.ev q.2;simp only[dh] at j⊢;generalize ev e l=u at*;generalize ev e' l=u' at*;generalize ev e p=t at*;generalize ev e' p=t' at*;split at j
  cases c;cases d;split at j;rename_i c;cases j;exact⟨_,_,by dsimp only;rw[bH c],w.slice _ _ _,w.aM (RG q.1.1 _) 0⟩;cases j;cases j
 |slice P x lo hi mx=>
  simp only[pd,pU] at q;have C:=A.ev q.1.1.1;simp only[dh] at j⊢;generalize ev e x=u at*;generalize ev e' x=u' at*;split at j
  .rename_i a len W;rcases h1:bound e mx W W with _|m;rw[h1] at j;cases j
   .rw[h1] at j;dsimp only at j;rcases H:bound e hi len m with _|hh;rw[H] at j;cases j
    .rw[H] at j;dsimp only at j;rcases W:bound e lo 0 hh with _|l;rw[W] at j;cases j
     .rw[W] at j;dsimp only at j;have i:=Kh A q.2 h1;have N:=Kh A q.1.2 H;have h3':=Kh A q.1.1.2 W;split at j
      cases C;cases j;exact⟨_,_,by dsimp only;rw[i];dsimp only;rw[N];dsimp only;rw[h3'],.gE _ _,w⟩
      .rename_i b off;cases C with
       |slice o l2 W E=>
        split at j;rename_i X ro o s g;have⟨L,s',O,_,_⟩:=w.ch E g;cases c:(ar o 0||ar o P);rw[c] at j;cases j;rw[c] at j;cases j;exact⟨_,_,by dsimp only;rw[i];dsimp only;rw[N];dsimp only;rw[h3'];dsimp only;rw[O];dsimp only;rw[c];rfl,.slice _ _ _ E,w⟩;cases j
      cases j
  cases j
 |cD off x=>
  have C:=A.ev (x:=x) q;simp only[dh] at j⊢;generalize ev e x=u at*;generalize ev e' x=u' at*;split at j
  .cases C with
   |ptr o E=>cases j;exact⟨_,_,Q,.ptr _ E,w⟩
  cases j
 |ee g P x i=>
  simp only[pd,pU] at q;have C:=A.ev q.1;have O:=A.ev q.2;simp only[dh] at j⊢;generalize ev e x=u at*;generalize ev e' x=u' at*;generalize ev e i=t at*;generalize ev e' i=t' at*;split at j
  .cases O;split at j
   .cases C with
    |ptr o E=>
     split at j;rename_i c;cases j;exact⟨_,_,by dsimp only;rw[bH c],.ptr _ E,w⟩;cases j
   .cases C with
    |slice o l p E=>
     split at j;rename_i c;cases j;exact⟨_,_,by dsimp only;rw[bH c],.ptr _ E,w⟩;cases j
   cases j
  cases j
 |index g x i=>
  simp only[pd,pU] at q;have C:=A.ev q.1;have O:=A.ev q.2;simp only[dh] at j⊢;generalize ev e x=u at*;generalize ev e' x=u' at*;generalize ev e i=t at*;generalize ev e' i=t' at*;split at j
  .cases O;split at j
   .cases C with
    |agg r=>
     split at j;rename_i c;dsimp only at j⊢;split at j;rename_i v2 M;have⟨U',I,G⟩:=WD ((r.drop _).take _) M;cases j;exact⟨_,_,by rw[bH c,I],G,w⟩;cases j;cases j
   .cases C with
    |str s=>
     split at j;rename_i c M;cases j;exact⟨_,_,by dsimp only;rw[M],.int _ _,w⟩;cases j
   cases j
  cases j
 |ext i x=>
  have C:=A.ev (x:=x) q;simp only[dh] at j⊢;generalize ev e x=u at*;generalize ev e' x=u' at*;split at j
  .cases C with
   |tuple r=>
    dsimp only at j⊢;split at j;rename_i v2 M;have⟨U',I,G⟩:=r.get M;cases j;exact⟨_,_,by rw[I],G,w⟩;cases j
  cases j
 |ox x=>
  have C:=A.ev (x:=x) q;simp only[dh] at j⊢;generalize ev e x=u at*;generalize ev e' x=u' at*;split at j;cases j;cases C<;>exact⟨_,_,Q,.int _ _,w⟩;cases j
 |MM x=>
  have C:=A.ev (x:=x) q;simp only[dh] at j⊢;generalize ev e x=u at*;generalize ev e' x=u' at*;split at j;cases C;cases j;exact⟨_,_,Q,.int _ _,w⟩;cases j
 |append z bytes G s x=>
  simp only[pd,pU] at q;simp only[dh] at j⊢;rcases C:news h z G (ev e x) with _|r;rw[C] at j;cases j;have⟨n,X⟩:=r;rw[C] at j;have⟨L,G,d⟩:=ajR w q.1.1 (A.ev q.2) C;rw[G];exact WJ w (A.ev q.1.2) d j
 |copy P C s=>
  simp only[pd,pU] at q;have P:=A.ev q.1;have G:=A.ev q.2;simp only[dh] at j⊢;generalize ev e C=u at*;generalize ev e' C=u' at*;generalize ev e s=t at*;generalize ev e' s=t' at*;split at j
  .rename_i A A A A A A;split at j;rename_i A;cases j;cases P<;>cases G<;>exact⟨_,_,by dsimp only;rw[bH A],.int _ _,w⟩
   .rename_i A;split at j
    .cases P with
     |slice P P P P=>
      cases G with
      |slice G l2 W W=>
       split at j;rename_i X y;have⟨L,NT,d⟩:=CN w W y;split at j;rename_i H F;have⟨N,T,w2⟩:=Fh w P d F;cases j;exact⟨_,_,by dsimp only;rw[bM A,NT];dsimp only;rw[T],.int _ _,w2⟩;cases j;cases j
    cases j
  cases j
 |call f args=>cases j
 |bad=>cases j
 |_=>cases q
end
def Ob(S:Sf)(F:Nat->Option cY):Prop:=∀f a,S.fk f=cd->F f=Z a->(match a.Ap with|.no=>True|_=>False)/\N9 S a.body=cd
def Sg(S:Sf)(a:aG->Env->aB->R):Prop:=∀c e h e' h' x q h1,N9 S c=cd->ES S e e'->HS S h h'->a c e h=Z (x,q,h1)->∃j p,a c e' h'=Z (x,j,p)/\ES S q j/\HS S h1 p
section
variable{S:Sf}{F:Nat->Option cY}{d:aG->Env->aB->R}
def Pu:∀ {l a:List aa} {e e':Env} (i:Nat),ES S e e'->bQ (VS S) l a->ES S (params e i l) (params e' i a)
 |_,_,_,_,_,w,.nil=>w
 |_,_,_,_,i,w,.cons x b=>Pu (i+1) (w.set x i) b
def GL:∀ {C:List Nat} {l a:List aa} {e e' r:Env},ES S e e'->bQ (VS S) l a->fW e C l=Z r->∃j,fW e' C a=Z j/\ES S r j
 |[],_,_,_,_,_,w,.nil,c=>by cases c;exact⟨_,Q,w⟩
 |[],_,_,_,_,_,_,.cons _ _,c=>by cases c
 |_::_,_,_,_,_,_,_,.nil,c=>by cases c
 |t::C,_,_,_,_,_,w,.cons x p,c=>by unfold fW at c⊢;exact GL (w.set x t) p c
def Aq{h h':aB}(w:HS S h h'){e e':Env}(j:ES S e e'):∀ {l:List I7} {r:List aa},results e h l=Z r->∃C,results e' h' l=Z C/\bQ (VS S) r C
 |[],r,c=>by cases c;exact⟨_,Q,.nil⟩
 |.tmp t::l,r,c=>by unfold results at c⊢;split at c;rename_i V q;have⟨U,p,y⟩:=Aq w j q;cases c;rw[p];exact⟨_,Q,.cons (j t) y⟩;cases c
 |.cell a n::l,r,c=>by
  unfold results at c⊢;have G:=j a;generalize bX e a=u at*;generalize bX e' a=u' at*;split at c
  .rename_i b off;cases G with
   |ptr o D=>
    dsimp only;split at c;rename_i X M;have⟨L,I,C⟩:=CN w D M;rw[I];dsimp only;split at c;rename_i v G;have⟨B,A,y⟩:=WD C G;rw[A];dsimp only;split at c;rename_i V q;have⟨U,p,E⟩:=Aq w j q;cases c;rw[p];exact⟨_,Q,.cons y E⟩;cases c;cases c;cases c
  cases c
def PC(r:bQ (VS S) l a):VS S (result l) (result a):=by unfold result;rcases r with _|⟨x,y⟩;exact .tuple .nil;rcases y with _|⟨y,c⟩;exact x;exact .tuple (.cons x (.cons y c))
def IS(r:bQ (VS S) l a):gI a=gI l:=by unfold gI;rcases r with _|⟨x,y⟩;rfl;rcases y with _|⟨y,c⟩;rfl;exact WE (λ_ _ r=>r.rR) (.cons x (.cons y c))
def Ks(E:Ob S F)(H:Sg S d){A:Bool}(j:S.fk f=cd)(w:HS S h h')(N:bQ (VS S) args o)(c:py F d A f args h=Z (v,h1)):∃B a,py F d A f o h'=Z (B,a)/\VS S v B/\HS S h1 a:=by
 unfold py at c⊢;rcases D:F f with _|a;rw[D] at c;cases c
 .rw[D] at c;have⟨A,G⟩:=E f a j D;dsimp only at c⊢;cases j:a.Ap with
  |Rx=>rw[j] at A;exact A.elim
  |run p k=>rw[j] at A;exact A.elim
  |no=>
   rw[j] at c;dsimp only at c⊢;rcases E:d a.body (params .nil 0 args) h with _|x;rw[E] at c;cases c
   .have⟨x,j,I⟩:=x;obtain⟨O,O,O,M,C⟩:=H _ _ _ _ _ _ _ _ G (Pu 0 ES.nil N) w E;rw[E] at c;rw[O];cases x with
    |exit id=>cases c
    |normal=>
     dsimp only at c⊢;rcases q:results j I a.res with _|V;rw[q] at c;cases c;rw[q] at c;have⟨U,G,y⟩:=Aq C M q;rw[G];dsimp only at c⊢;rw[IS y];cases u:gI V;rw[u] at c;cases c;rw[u] at c;cases c;exact⟨_,_,Q,PC y,C⟩
    |ret=>
     dsimp only at c⊢;rcases q:results j I a.res with _|V;rw[q] at c;cases c;rw[q] at c;have⟨U,G,y⟩:=Aq C M q;rw[G];dsimp only at c⊢;rw[IS y];cases u:gI V;rw[u] at c;cases c;rw[u] at c;cases c;exact⟨_,_,Q,PC y,C⟩
def HS.loop{h h':aB}(w:HS S h h'){l:Nat}(p:S.D l){g:Env}{a:List Nat}{b c:aG}{f:Wz}(u:h.tr.get l=Z (.loop g a b c f)):∃j,h'.tr.get (S.sh l)=Z (.loop j a b c f)/\ES S g j/\N9 S b=cd/\N9 S c=cd:=by
 rcases w.at_ l _ p u with⟨A,e,_⟩|⟨C,q,r⟩;cases e
 .cases r with
  |loop a f h h1 y=>exact⟨_,q,h,h1,y⟩
def HY(w:HS S h h'){l:Nat}(q:S.D l){a:Wz}{b:Bool}(c:nk l h a b=Z (v,h1)):∃B p,nk (S.sh l) h' a b=Z (B,p)/\VS S v B/\HS S h1 p:=by unfold nk at c⊢;split at c;rename_i y A C j D;obtain⟨u,u,E,I,G⟩:=w.loop q D;rw[u];cases c;exact⟨_,_,Q,.bool _,w.auM (.loop A a E I G)⟩;cases c
def adi(H:Sg S d)(w:HS S h h'){l:Nat}(y:S.D l){c:aG}(V:N9 S c=cd)(a:ES S e e')(p:yA d l c e h=Z (v,h1)):∃B E,yA d (S.sh l) c e' h'=Z (B,E)/\VS S v B/\HS S h1 E:=by
 unfold yA at p⊢;split at p
 .rename_i u A q j N;have⟨I,M,O,E,G⟩:=w.loop y N;rw[M];dsimp only;have U:HS S (gm h l u A q j .busy) (gm h' (S.sh l) I A q j .busy):=w.auM (.loop A .busy O E G);rcases D:d c e (gm h l u A q j .busy) with _|x
  rw[D] at p;cases p
  .obtain⟨x,G,G⟩:=x;obtain⟨G,G,G,_,C⟩:=H _ _ _ _ _ _ _ _ V a U D;rw[D] at p;rw[G];cases x with
   |normal=>exact HY C y p
   |ret=>exact HY C y p
   |exit id=>exact HY C y p
 cases p
def adk(H:Sg S d)(w:HS S h h'){l:Nat}(A:S.D l)(E:bQ (VS S) args o)(c:tS d l args h=Z (v,h1)):∃B D,tS d (S.sh l) o h'=Z (B,D)/\VS S v B/\HS S h1 D:=by
 unfold tS at c⊢;split at c
 .rename_i p u j C I;obtain⟨O,O,U,N,M⟩:=w.loop A I;rw[O];dsimp only;rcases q:fW p u args with _|e;rw[q] at c;cases c
  .obtain⟨u,u,V⟩:=GL U E q;rw[q] at c;rw[u];dsimp only at c⊢;rcases u:d j e h with _|x;rw[u] at c;cases c
   .obtain⟨x,I,I⟩:=x;obtain⟨I,I,I,y,G⟩:=H _ _ _ _ _ _ _ _ N V w u;rw[u] at c;rw[I];cases x with
    |normal=>exact adi H G A M y c
    |ret=>cases c
    |exit id=>cases c
 cases c
def aeV(D:Ob S F)(H:Sg S d){u c:aa}(q:VS S u c)(p:bQ (VS S) args o)(w:HS S h h')(j:fB F d u args h=Z (v,h1)):∃B u,fB F d c o h'=Z (B,u)/\VS S v B/\HS S h1 u:=by
 unfold fB at j;split at j
 .cases q with
  |fn A h1 C=>exact Ks D H A w ((h1.app p).app C) j
 .cases q with
  |yield y=>exact adk H w y p j
 cases j
def adQ(c:ES S e e')(g:Option (Nat×Bool)):wanted e' g=wanted e g:=by rcases g with _|g;rfl;have⟨t,b⟩:=g;unfold wanted;have r:=c t;dsimp only;generalize bX e t=u at*;generalize bX e' t=u' at*;cases r<;>rfl
def UR(b:Ob S F)(H:Sg S d){o:cn}(p:pd S o.op=cd){e e' D:Env}(j:ES S e e')(w:HS S h h')(c:dL F d o e h=Z (D,h1)):∃C E,dL F d o e' h'=Z (C,E)/\ES S D C/\HS S h1 E:=by unfold dL at c⊢;rw[adQ j];cases A:wanted e o.guard;rw[A] at c;cases c;exact⟨_,_,Q,j.put VS.undef _,w⟩;rw[A] at c;simp only[mi] at c⊢;split at c;rename_i f args G;rw[G] at p;simp only[pd,pU] at p;rcases a:fB F d (ev e f) (qi e args) h with _|x;rw[a] at c;cases c;have⟨v,I⟩:=x;have⟨B,A,q,y,u⟩:=aeV b H (j.ev p.1) (j.qi p.2) w a;rw[a] at c;rw[q];cases c;exact⟨_,_,Q,j.put y _,u⟩;rename_i op M;rcases a:dh e h o.op with _|x;rw[a] at c;cases c;have⟨v,I⟩:=x;have⟨B,A,q,y,u⟩:=aoj w j p a;rw[a] at c;rw[q];cases c;exact⟨_,_,Q,j.put y _,u⟩
def aaO(A:Ob S F)(H:Sg S d):∀ {l:List cn} {e e' p:Env} {h h' h1:aB},(l.all λo=>pd S o.op)=cd->ES S e e'->HS S h h'->zi F d l e h=Z (p,h1)->∃u y,zi F d l e' h'=Z (u,y)/\ES S p u/\HS S h1 y
 |[],_,_,_,_,_,_,_,q,w,c=>by cases c;exact⟨_,_,Q,q,w⟩
 |o::l,e,e',p,h,h',h1,j,q,w,c=>by rw[gF,pU] at j;unfold zi at c⊢;rcases a:dL F d o e h with _|x;rw[a] at c;cases c;obtain⟨G,G⟩:=x;obtain⟨I,C,D,C,E⟩:=UR A H j.1 q w a;rw[a] at c;rw[D];exact aaO A H j.2 C E c
def wK{e e':Env}{h h':aB}(p:ES S e e')(w:HS S h h'){k:Nat} :∀ {l:List Nat},still e h k l=cd->still e' h' (k+S.dc) l=cd
 |[],_=>rfl
 |t::l,j=>by
  unfold still at j⊢;have r:=p t;generalize bX e t=u at*;generalize bX e' t=u' at*;cases r with
  |ptr o q=>
   dsimp only at j⊢;split at j;rename_i X D E s t;have⟨L,C,y,_,A⟩:=w.ch q t;rw[y];dsimp only;rw[pU] at j⊢;exact⟨u2 (aw (ON j.1)),wK p w j.2⟩;cases j
  |slice o a c q=>
   dsimp only at j⊢;split at j;rename_i X D E s t;have⟨L,C,y,_,A⟩:=w.ch q t;rw[y];dsimp only;rw[pU] at j⊢;exact⟨u2 (aw (ON j.1)),wK p w j.2⟩;cases j
  |wa=>exact wK p w j
  |tuple _=>exact wK p w j
  |yo=>exact wK p w j
  |gE _ _=>exact wK p w j
  |_=>cases j
def Tq(E:Ob S F)(H:Sg S d){k:Nat} :∀ {l:List (cn×List Nat)} {e e' p:Env} {h h' h1:aB},(l.all λo=>pd S o.1.op)=cd->ES S e e'->HS S h h'->mF F d k l e h=Z (p,h1)->∃y C,mF F d (k+S.dc) l e' h'=Z (y,C)/\ES S p y/\HS S h1 C
 |[],_,_,_,_,_,_,_,q,w,c=>by cases c;exact⟨_,_,Q,q,w⟩
 |(o,C)::l,e,e',p,h,h',h1,j,q,w,c=>by rw[gF,pU] at j;unfold mF at c⊢;rcases u:dL F d o e h with _|x;rw[u] at c;cases c;have⟨p,G⟩:=x;obtain⟨I,M,I,A,D⟩:=UR E H j.1 q w u;rw[u] at c;rw[I];dsimp only at c⊢;cases u:still p G k C;rw[u] at c;cases c;rw[u] at c;rw[wK A D u];exact Tq E H j.2 A D c
def ahD(G:Ob S F)(H:Sg S d):Sg S (dg F d):=by
 intro i e h e' h' x C h1 q C w j;cases i with
 |skip=>cases j;exact⟨_,_,Q,C,w⟩
 |ret=>cases j;exact⟨_,_,Q,C,w⟩
 |exit id=>cases j;exact⟨_,_,Q,C,w⟩
 |bad=>cases j
 |ops l=>
  unfold dg at j⊢;dsimp only at j⊢;rcases c:zi F d l e h with _|x;rw[c] at j;cases j;have⟨N,M⟩:=x;have⟨O,I,D,A,p⟩:=aaO G H q C w c;rw[c] at j;rw[D];cases j;exact⟨_,_,Q,A,p⟩
 |draw l=>
  unfold dg at j⊢;dsimp only at j⊢;rcases c:mF F d h.clock l e {h with clock:=h.clock+1} with _|x;rw[c] at j;cases j;have⟨N,M⟩:=x;have⟨O,I,D,A,p⟩:=Tq G H q C w.tick c;rw[<-w.clock] at D;rw[c] at j;rw[D];cases j;exact⟨_,_,Q,A,p⟩
 |seq a b=>
  simp only[N9,pU] at q;unfold dg at j⊢;dsimp only at j⊢;rcases c:d a e h with _|y;rw[c] at j;cases j
  .have⟨y,N,M⟩:=y;have⟨O,I,D,A,p⟩:=H _ _ _ _ _ _ _ _ q.1 C w c;rw[c] at j;rw[D];cases y with
   |normal=>exact H _ _ _ _ _ _ _ _ q.2 A p j
   |exit id=>cases j;exact⟨_,_,Q,A,p⟩
   |ret=>cases j;exact⟨_,_,Q,A,p⟩
 |cond i a b=>
  simp only[N9,pU] at q;have k:=C.ev q.1.1;unfold dg at j⊢;dsimp only at j⊢;generalize ev e i=u at*;generalize ev e' i=u' at*;split at j
  cases k;exact H _ _ _ _ _ _ _ _ q.1.2 C w j;cases k;exact H _ _ _ _ _ _ _ _ q.2 C w j;cases j
 |block id i=>
  unfold dg at j⊢;dsimp only at j⊢;rcases c:d i e h with _|y;rw[c] at j;cases j
  .have⟨y,N,M⟩:=y;have⟨O,I,D,A,p⟩:=H _ _ _ _ _ _ _ _ (show N9 S i=cd from q) C w c;rw[c] at j;rw[D];cases y with
   |normal=>cases j;exact⟨_,_,Q,A,p⟩
   |ret=>cases j;exact⟨_,_,Q,A,p⟩
   |exit E=>
    dsimp only at j⊢;cases k:ar E id;rw[k] at j;cases j;exact⟨_,_,Q,A,p⟩;rw[k] at j;cases j;exact⟨_,_,Q,A,p⟩
 |loop i=>
  unfold dg at j⊢;dsimp only at j⊢;rcases c:d i e h with _|y;rw[c] at j;cases j
  .have⟨y,N,M⟩:=y;have⟨O,I,D,A,p⟩:=H _ _ _ _ _ _ _ _ (show N9 S i=cd from q) C w c;rw[c] at j;rw[D];cases y with
   |normal=>exact H _ _ _ _ _ _ _ _ q A p j
   |exit id=>cases j;exact⟨_,_,Q,A,p⟩
   |ret=>cases j;exact⟨_,_,Q,A,p⟩
 |RO f U A E=>
  simp only[N9,pU] at q;have i:=C.ev q.1.1;unfold dg at j⊢;dsimp only at j⊢;generalize ev e f=u at*;generalize ev e' f=u' at*;split at j
  .rename_i g first O
   cases i with
   |fn k i n=>
    rename_i a N b O;dsimp only at j⊢;have m:VS S (.func (.yield h.ax) #[] #[]) (.func (.yield h'.ax) #[] #[]):=by have:=VS.yield (S:=S) w.dn;rwa [w.RL] at this
    rcases c:uw F d g (a++[aat (.yield h.ax) #[] #[]]++b) (h.new (.loop e U A E .ready)) with _|y;rw[c] at j;cases j
    .have⟨y,M⟩:=y;have⟨M,I,D,_,p⟩:=Ks G H k (w.new (.loop U .ready C q.1.2 q.2)) ((i.app (.cons m .nil)).app n) c;have G:uw F d g (N++[aat (.yield h'.ax) #[] #[]]++O) (h'.new (.loop e' U A E .ready))=Z (M,I):=D;rw[c] at j;rw[G];dsimp only at j⊢;split at j
     rename_i M;have⟨V,G,_⟩:=p.loop w.dn M;rw[w.RL] at G;rw[G];cases j;have:=p.del h.ax;rw[w.RL] at this;exact⟨_,_,Q,C,this⟩
     rename_i M;have⟨V,G,_⟩:=p.loop w.dn M;rw[w.RL] at G;rw[G];cases j;have:=p.del h.ax;rw[w.RL] at this;exact⟨_,_,Q,C,this⟩
     rename_i M;have⟨V,G,_⟩:=p.loop w.dn M;rw[w.RL] at G;rw[G];cases j;have:=p.del h.ax;rw[w.RL] at this;exact⟨_,_,Q,C,this⟩
     cases j
  cases j
def ahk(c:Ob S F):∀k,Sg S (run F k)
 |0=>λ_ _ _ _ _ _ _ _ _ _ _ j=>by cases j
 |k+1=>ahD c (ahk c k)
def aiH(j:Ob S F)(p:S.fk f=cd)(w:HS S h h')(q:bQ (VS S) args o)(u:call F k f args h=Z (v,h1)):∃B c,call F k f o h'=Z (B,c)/\VS S v B/\HS S h1 c:=Ks j (ahk j k) p w q u
end
def oD(n:Nat)(v:aa):Prop:=UP v=cd\/(∃b o,v=dB (Z ⟨b,o,K⟩)/\b<n)\/∃b o l c,v=c6 (Z ⟨b,o,K⟩) l c/\b<n
def oD.mono(h:oD n v)(l:n<=m):oD m v:=by rcases h with h|⟨b,o,e,h⟩|⟨b,o,k,c,e,h⟩;exact fc h;exact ft (fc ⟨b,o,e,Jy h l⟩);exact ft (ft ⟨b,o,k,c,e,Jy h l⟩)
def alI(n:Nat)(v:aa):Prop:=oD n v\/∃X,v=eU ⟨X⟩/\∀c∈X,oD n c
def JV(h:aB):Prop:=∀b o,h.tr.get b=Z o->∃X c op s,o=.ch X c op s/\∀v∈X,oD h.ax v
def Cp{a:Type}{R:a->a->Prop} :∀ {l:List a},(∀v∈l,R v v)->bQ R l l
 |[],_=>.nil
 |v::l,h=>.cons (h v (iz)) (Cp λu c=>h u (vU _ c))
def xR(c a d:aB)(e:Nat->Bool)(h1:0<c.ax)(j:c.ax<=a.ax):Sf:=
 ⟨a.ax,d.ax-a.ax,d.clock-a.clock,λb=>a.ax<=b\/b<c.ax,e,λg=>ar g 0,λ_ h=>fc h,λg c=>by have:=qm c;subst this;exact⟨Jy h1 j,ft h1⟩⟩
section
variable{i d t:aB}{H:Nat->Bool}{M:0<i.ax}{w:i.ax<=d.ax}
def H6(h:b<i.ax):(xR i d t H M w).sh b=b:=by unfold Sf.sh;exact bH (Jy h w)
def Hn(h:oD i.ax v):VS (xR i d t H M w) v v:=by rcases h with h|⟨b,o,rfl,h⟩|⟨b,o,l,c,rfl,h⟩;exact YH h;have:=VS.ptr (S:=xR i d t H M w) o (ft h);rwa [H6 h] at this;have:=VS.slice (S:=xR i d t H M w) o l c (ft h);rwa [H6 h] at this
def ahO(h:alI i.ax v):VS (xR i d t H M w) v v:=by rcases h with h|⟨X,rfl,h⟩;exact Hn h;exact .agg (Cp λv c=>Hn (h v c))
def ahx(C:JV i)(I:cy i)(a:az aV i d)(j:az aV d t):HS (xR i d t H M w) d t:=by
 refine⟨fE _,?_,?_,λb o u c=>?_⟩;have:=j.ax;show t.ax=d.ax+(t.ax-d.ax);omega
 have:=j.clock;show t.clock=d.clock+(t.clock-d.clock);omega
 .have E:=a.ok.wf b o c;have q:b<i.ax:=by rcases u with h|h;exact absurd h (by show ¬d.ax<=b;omega);exact h
  have p:=a.same b q (λh=>h);have y:=j.same b E (λh=>h);rw[p] at c;obtain⟨X,D,op,s,rfl,G⟩:=C b o c;refine ft ⟨_,by rw[H6 q,y,p];exact c,.ch D op (Cp λv A=>Hn (G v A)) (s9 _ _)⟩
end
def aoe{S:Sf}(r:VS S v B)(h:UP v=cd):B=v:=by cases r<;>first|rfl|cases h
def Rr{S:Sf} :∀ {l a:List aa},bQ (VS S) l a->l.all UP=cd->a=l
 |_,_,.nil,_=>rfl
 |_,_,.cons x b,h=>by rw[gF,pU] at h;rw[aoe x h.1,Rr b h.2]
def aof{S:Sf}(r:VS S v B)(h:okV v=cd):B=v:=by
 cases r with
 |agg q=>rw[Rr q h]
 |tuple q=>rw[Rr q h]
 |_=>first|rfl|cases h
def frame{a b c:aB}(d:Nat->Bool)(y:0<a.ax)(C:JV a)(A:cy a)(e:az aV a b)(j:az aV b c)(u:Ob (xR a b c d y e.ax) F)(y:d f=cd)(d:∀v∈args,alI a.ax v){V:aa}(E:okV V=cd)(D:aY F f args b (λv _=>v=V)):aY F f args c (λv _=>v=V):=by obtain⟨n,v,h',G,rfl⟩:=D;have⟨B,p,q,I,_⟩:=aiH u y (ahx C A e j) (Cp λu y=>ahO (d u y)) G;exact⟨n,B,p,q,aof I E⟩
def aY.both{c p:aa->aB->Prop}(a:aY F f args h c)(b:aY F f args h p):aY F f args h (λv h'=>c v h'/\p v h'):=by have⟨n,v,h1,C,A⟩:=a;have⟨m,u,E,y,D⟩:=b;have j:=Kr (tT (Nat.le_max_left n m)) C;have q:=Kr (tT (Nat.le_max_right n m)) y;rw[j] at q;cases q;exact⟨_,v,h1,j,A,D⟩
def codeOk(F:Nat->Option cY)(S:Sf)(f:Nat):Bool:=match F f with
 |some a=>(match a.Ap with|.no=>cd|_=>b9)&&N9 S a.body
 |none=>cd
def amd{S:Sf}(l:List Nat)(j:∀f,S.fk f=cd->f∈l)(h:l.all (codeOk F S)=cd):Ob S F:=by
 intro f S q u;have:=List.all_eq_true.1 h f (j f q);unfold codeOk at this;rw[u] at this;dsimp only at this;rw[pU] at this;refine⟨?_,this.2⟩;cases c:S.Ap with
 |no=>trivial
 |run p k=>rw[c] at this;cases this.1
 |Rx=>rw[c] at this;cases this.1
end Go.AI
namespace Go.AI
open Go.ChangeShapes Go.WideShapes
variable{a:Addr}{h:aB}{k:Option Nat}{v:aa}{ρ:fP}
inductive Ty where
 |bool
 |int (k:nH)
 |str
 |unit
 |pair (a b:Ty)
 |sl (e:Ty)
namespace Ty
def sz:Ty->Nat
 |.bool=>1
 |.int _=>1
 |.str=>1
 |.unit=>0
 |.pair a b=>a.sz+b.sz
 |.sl _=>1
def den:Ty->Type
 |.bool=>Bool
 |.int _=>Int
 |.str=>ByteArray
 |.unit=>Unit
 |.pair a b=>a.den×b.den
 |.sl e=>List e.den
def rep(e:Ty):Nat->Ty
 |0=>.unit
 |n+1=>.pair e (e.rep n)
end Ty
def ae{c:Type}(R:List aa->c->Prop)(sz:Nat)(h:aB)(v:aa)(e:List c):Prop:=
 ∃a c,v=c6 a (Y e) c/\((e=[]/\(a=K\/∃c b,a=Z ⟨c,b,K⟩))\/∃c b d j o s,a=Z ⟨c,b,K⟩/\h.tr.get c=Z (.ch d j o s)/\∀i x,e[i]?=Z x->Y ((d.drop (b+i*sz)).take sz)=sz/\R ((d.drop (b+i*sz)).take sz) x)
def rep:(T:Ty)->aB->List aa->T.den->Prop
 |.bool,_,b,c=>b=[dd c]
 |.int k,_,b,n=>b=[.int k n]
 |.str,_,b,s=>b=[eT s]
 |.unit,_,b,_=>b=[]
 |.pair a c,h,b,(x,y)=>∃j d,b=j++d/\rep a h j x/\rep c h d y
 |.sl e,h,b,y=>∃v,b=[v]/\ae (rep e h) e.sz h v y
def ae.mono{s:Type}{R q:List aa->s->Prop}{sz:Nat}{h b:aB}{p:List s}(s:ae R sz h v p)(y:cy h)(g:az aV h b)(C:∀c x,R c x->q c x):ae q sz b v p:=by obtain⟨a,j,rfl,s⟩:=s;refine⟨a,j,Q,?_⟩;rcases s with s|⟨b,u,j,A,o,q,rfl,i,p⟩;exact fc s;exact ft ⟨b,u,j,A,o,q,Q,g.get y i,λi x u=>⟨(p i x u).1,C _ _ (p i x u).2⟩⟩
def zq:∀ {T:Ty} {h r:aB} {c:List aa} {y:T.den},cy h->az aV h r->rep T h c y->rep T r c y
 |.bool,_,_,_,_,_,_,r=>r
 |.int _,_,_,_,_,_,_,r=>r
 |.str,_,_,_,_,_,_,r=>r
 |.unit,_,_,_,_,_,_,r=>r
 |.pair a b,_,_,_,(x,y),c,g,⟨A,p,e,u,j⟩=>⟨A,p,e,zq c g u,zq c g j⟩
 |.sl e,_,_,_,_,c,g,⟨v,q,s⟩=>⟨v,q,s.mono c g λ_ _ r=>zq c g r⟩
def JO:∀ {T:Ty} {h:aB} {r:List aa} {y:T.den},rep T h r y->Y r=T.sz
 |.bool,_,_,_,r=>by rw[show _=[_] from r];rfl
 |.int _,_,_,_,r=>by rw[show _=[_] from r];rfl
 |.str,_,_,_,r=>by rw[show _=[_] from r];rfl
 |.unit,_,_,_,r=>by rw[show _=[] from r];rfl
 |.pair a b,_,_,(x,y),⟨u,q,e,p,c⟩=>by rw[e,IA,JO p,JO c];rfl
 |.sl e,_,_,_,⟨v,j,_⟩=>by rw[j];rfl
def Bd(k:Option Nat):(T:Ty)->T.den->Prop
 |.bool,_=>True
 |.int _,_=>True
 |.str,_=>True
 |.unit,_=>True
 |.pair a b,(x,y)=>Bd k a x/\Bd k b y
 |.sl e,(c:List e.den)=>(∀b,k=Z b->Y c<=b)/\∀x∈c,Bd k e x
section
variable(P:b7)
def n9(f:e7->Option Ty):Nat->List Field->Option (Ty×Nat)
 |off,[]=>Z (.unit,off)
 |off,x::b=>bif ar x.offset off then match f x.type with
   |none=>K
   |some a=>bif ar a.sz (P.cellsOf x.type) then match n9 f (off+a.sz) b with
     |some (b,n)=>Z (.pair a b,n)
     |none=>K
    else K
  else K
def tyOf:Nat->e7->Option Ty
 |0,_=>K
 |d+1,t=>match P.underlying t with
  |some .bool=>Z .bool
  |some (.int k)=>Z (.int k)
  |some .string=>Z .str
  |some (.slice e)=>match tyOf d e with
   |some a=>bif eR 0 (P.bytesOf e)&&(ar a.sz (P.cellsOf e)&&eR 0 a.sz) then Z (.sl a) else K
   |none=>K
  |some (.struct n)=>match n9 P (tyOf d) 0 n.toList with
   |some (a,n)=>bif ar n (P.cellsOf t) then Z a else K
   |none=>K
  |some (.array n e)=>match tyOf d e with
   |some a=>bif ar a.sz (P.cellsOf e)&&ar (n*a.sz) (P.cellsOf t) then Z (a.rep n) else K
   |none=>K
  |_=>K
end
def zN{a b:Nat}(h:ar a b=cd):a=b:=qm h
def NH(h:dt v=cd):UP v=cd:=by unfold dt at h;split at h<;>first|rfl|cases h
structure DY(CC:dy)(ρ:fP)(h:aB)(w:c5):Prop where
 ok:cy h
 ro:∀b,¬fU h b
 Wt:eQ CC ρ h w
 cl:JV h
section
variable{H:Type}{r:e7×aa->H}{P:b7}{w:c5}{o:Bool}{l:dy}
def DY.add(L:DY l ρ h w){ch p:Nat}{acs:List aa}{C:Array aa}{d:e7}{F:Nat×Nat}(s:w.heap[ch]?=Z (.cells C d F))(u:p<=C.size)(f:∀(j:Nat)(v:aa),acs[j]?=Z v->∃c,C[p+j]?=Z c/\KR ρ v c)(P:∀v∈acs,oD h.ax v):∃y,ρ.le y/\y h.ax=Z ⟨ch,p,Y acs,0,C.size-p⟩/\DY l y (h.new (.ch acs cd 0 0)) w/\az aV h (h.new (.ch acs cd 0 0)):=by
 have m:ρ h.ax=K:=by rcases u:ρ h.ax with _|r;rfl;exact absurd (L.Wt.low _ _ u).1 J
 let y:fP:=λb=>if b=h.ax then Z ⟨ch,p,Y acs,0,C.size-p⟩ else ρ b
 have E:ρ.le y:=by intro b r u;show(if b=h.ax then _ else ρ b)=Z r;rw[bM (by rintro rfl;rw[m] at u;cases u)];exact u
 have N:y h.ax=Z ⟨ch,p,Y acs,0,C.size-p⟩:=by show(if h.ax=h.ax then _ else _)=_;rw[bH rfl]
 have G:∀b,(h.new (.ch acs cd 0 0)).tr.get b=if b=h.ax then Z (.ch acs cd 0 0) else h.tr.get b:=by intro b;simp[aB.new,Tr.bS]
 have U:cy (h.new (.ch acs cd 0 0)):=by
  refine⟨λb o s=>?_,λb m M o O s=>?_⟩
  .rw[G] at s;show b<h.ax+1;split at s
   omega;exact sW (L.ok.wf b o s)
  rw[G] at s;split at s;cases s;exact kp _;exact L.ok.st b m M o O s
 have H:∀b,¬fU (h.new (.ch acs cd 0 0)) b:=by rintro b⟨o,q,u⟩;rw[G] at q;split at q;cases q;cases u;exact L.ro b ⟨o,q,u⟩
 have V:az aV h (h.new (.ch acs cd 0 0)):=by refine⟨hQ _,fE _,λb s _=>?_,U⟩;rw[G,bM J]
 refine⟨y,E,N,⟨U,H,⟨λb r u=>?_,λb r o u q=>?_,λb D r k o _ _ S=>absurd S (H b),λb o q=>U.wf b o q⟩,λb o q=>?_⟩,V⟩
 .by_cases e:b=h.ax;rw[e] at u;rw[N] at u;cases u;exact⟨by rw[e];exact sM _,(Array.getElem?_eq_some_iff.mp s).1⟩
  .have z:ρ b=Z r:=by
    have:y b=ρ b:=by show(if b=h.ax then _ else ρ b)=_;rw[bM e]
    rw[<-this];exact u
   exact⟨sW (L.Wt.low _ _ z).1,(L.Wt.low _ _ z).2⟩
 .rw[G] at q;by_cases e:b=h.ax;rw[bH e] at q;cases q;rw[e,N] at u;cases u;exact⟨C,d,F,s,Q,Q,⟨by dsimp only;omega,λh=>absurd Q h⟩,(λh=>by cases h),λj v D=>by have⟨c,I,A⟩:=f j v D;exact⟨c,I,A.mono E⟩⟩
  .rw[bM e] at q;have z:ρ b=Z r:=by
    have:y b=ρ b:=by show(if b=h.ax then _ else ρ b)=_;rw[bM e]
    rw[<-this];exact u
   have f:=L.Wt.obj b r o z q;cases o with
   |ch m M p C=>
    have⟨F,a,H,s,g,x,u,k,i⟩:=f;exact⟨F,a,H,s,g,x,u,k,λj v D=>by have⟨c,I,A⟩:=i j v D;exact⟨c,I,A.mono E⟩⟩
   |loop=>exact absurd ⟨_,q,Q⟩ (L.ro b)
   |itr=>exact absurd ⟨_,q,Q⟩ (L.ro b)
   |map=>exact absurd ⟨_,q,Q⟩ (L.ro b)
 rw[G] at q;by_cases e:b=h.ax;rw[bH e] at q;cases q;exact⟨_,_,_,_,Q,λv D=>(P v D).mono (hQ _)⟩;rw[bM e] at q;obtain⟨m,M,p,O,rfl,I⟩:=L.cl b o q;exact⟨_,_,_,_,Q,λv D=>(I v D).mono (hQ _)⟩
def Laid(k:Option Nat)(l:dy)(w:c5)(T:Ty)(ρ:fP)(h:aB)(b:List aa):Prop:=
 ∃j a c y,ρ.le j/\az aV h a/\DY l j a w/\bQ (KR j) c b/\rep T a c y/\Bd k T y/\∀v∈c,oD a.ax v
def WB(k:Option Nat)(P:b7)(t:e7)(d:K6 H):Prop:=∀a,k=Z a->∀n∈d.weights P t,n<=a
def ZG{k:Option Nat}{P:b7}{e:e7}{c:Nat}(p:k=Z c):∀ {l:List (K6 H)},(∀n∈yh P e l,n<=c)->∀ {i:Nat} {d:K6 H},l[i]?=Z d->WB k P e d
 |[],_,_,_,c=>by simp at c
 |x::l,h,i,d,c=>by
  rw[yh] at h;cases i with
  |zero=>
   simp at c;subst c;intro u q n j;rw[p] at q;cases q;exact h n (ba _ j)
  |succ i=>exact ZG p (λn j=>h n (aT _ j)) (ak c)
def aa6{P:b7}{j:Nat} :∀ {a:List e7} {l:List (K6 H)},(∀n∈K5 P a l,n<=j)->∀ {i:Nat} {t:e7} {d:K6 H},a[i]?=Z t->l[i]?=Z d->∀n∈d.weights P t,n<=j
 |[],_,_,_,_,_,j,_=>by simp at j
 |_::_,[],_,_,_,_,_,c=>by simp at c
 |u::a,x::l,h,i,t,d,j,c=>by
  rw[K5] at h;cases i with
  |zero=>
   simp at c j;subst c j;exactλn p=>h n (ba _ p)
  |succ i=>exact aa6 (λn p=>h n (aT _ p)) (ak j) (ak c)
def Pa{a b:Ty}{p q:List aa}(G:Laid k l w a ρ h p)(I:∀j C,DY l j C w->Laid k l w b j C q):Laid k l w (.pair a b) ρ h (p++q):=by have⟨N,q,u,M,g,U,C,D,b,E,d⟩:=G;have⟨p,G,y,i,A,c,f,e,j,V,O⟩:=I N q C;exact⟨p,G,u++y,(M,i),fP.le_trans g A,U.trans c,f,(D.mono λ_ _ h=>h.mono A).app e,⟨u,y,Q,zq C.ok c b,j⟩,⟨E,V⟩,λv E=>by rcases jL.1 E with h|h;exact(d v h).mono c.ax;exact O v h⟩
def UD{k:Option Nat}{e:Ty} :∀ {css:List (List aa)} {ρ:fP} {h:aB},DY l ρ h w->(∀N∈css,∀j p,DY l j p w->Laid k l w e j p N)->∃j p A D,ρ.le j/\az aV h p/\DY l j p w/\bQ (bQ (KR j)) A css/\bQ (rep e p) A D/\(∀y∈D,Bd k e y)/\∀q∈A,∀v∈q,oD p.ax v
 |[],ρ,h,L,_=>⟨ρ,h,[],[],ρ.le_refl,.refl L.ok,L,.nil,.nil,λy p=>(by cases p),λq h=>(by cases h)⟩
 |N::css,ρ,h,L,H=>by
  obtain⟨C,s,m,b,D,F,I,T,C,z,V⟩:=H N (iz ..) ρ h L;have⟨O,M,n,X,G,u,t,N,a,x,U⟩:=UD I (λc A=>H c (vU _ A));exact⟨O,M,m::n,b::X,fP.le_trans D G,F.trans u,t,.cons (T.mono λ_ _ h=>h.mono G) N,.cons (zq I.ok u C) a,λy p=>by
   rcases bd.1 p with rfl|p;exact z;exact x y p,λq C v E=>by
   rcases bd.1 C with rfl|h;exact(V v E).mono u.ax;exact U q h v E⟩
def Oq{m a:Type}{R:m->a->Prop} :∀ {l:List (List m)} {m:List (List a)},bQ (bQ R) l m->bQ R l.flatten m.flatten
 |_,_,.nil=>.nil
 |_,_,.cons h c=>ak (h.app (Oq c))
def Cz{j:Type}{sz:Nat} :∀ {l:List (List j)} {i:Nat} {c:List j},(∀c∈l,Y c=sz)->l[i]?=Z c->(l.flatten.drop (i*sz)).take sz=c
 |[],i,c,_,h=>by simp at h
 |x::l,0,c,j,h=>by cases h;have:=j x (iz ..);simp[List.take_append,this]
 |x::l,i+1,c,j,h=>by
  have p:=j x (iz ..);have a:l[i]?=Z c:=ak h
  rw[M6,List.drop_append,Gb (by rw[p,qB];omega),z1,p,show(i+1)*sz-sz=i*sz by rw[qB];omega];exact Cz (λc q=>j c (vU _ q)) a
def TP{u:Type}{sz:Nat}(A:0<sz):∀ {l:List (List u)} {j:Nat} {c:u},(∀c∈l,Y c=sz)->l.flatten[j]?=Z c->∃x,l[j/sz]?=Z x/\x[j%sz]?=Z c
 |[],j,c,_,h=>by simp at h
 |x::l,j,c,u,h=>by have D:=u x (iz ..);rw[M6] at h;by_cases q:j<sz;rw[Jf J] at h;exact⟨x,by rw[Nat.div_eq_of_lt q];rfl,by rw[Nat.mod_eq_of_lt q];exact h⟩;rw[Hv J,D] at h;have⟨y,C,p⟩:=TP A (λc p=>u c (vU _ p)) h;refine⟨y,?_,?_⟩;rw[Nat.div_eq j sz,bH ⟨A,J⟩];simpa using C;rw[Nat.mod_eq_sub_mod J];exact p
def UH{p b:Type}{f:p->Option b} :∀ {l:List p} {r:List b},l.mapM f=Z r->Y r=Y l/\∀(i:Nat)(a:p)(p:b),l[i]?=Z a->r[i]?=Z p->f a=Z p
 |[],r,h=>by simp at h;subst h;simp
 |a::l,r,h=>by
  rw[List.mapM_cons] at h;simp only[Option.bind_eq_bind,OO,Option.pure_def,oN] at h;obtain⟨p,f,u,c,rfl⟩:=h;have⟨p,q⟩:=UH c;refine⟨av p,λi x y p j=>?_⟩;cases i with
  |zero=>simp at p j;subst p;subst j;exact f
  |succ i=>exact q i x y (ak p) (ak j)
def Ho{n:Nat}{b:List aa}(h:w.cells? 0 a n=Z b):Y b=n/\∀k c,b[k]?=Z c->w.cell? (a.add k)=Z c:=by unfold World.cells? at h;rw[bH (kp _)] at h;have⟨b,p⟩:=UH h;simp at b;refine⟨b,λk c j=>?_⟩;have q:=(cR.mp j).1;exact p k k c (by rw[List.getElem?_range J]) j
def aaa(h:w.cell? a=Z v):a.spot=K/\∃c b p,w.heap[a.block]?=Z (.cells c b p)/\c[a.off]?=Z v:=by unfold EK at h;split at h;rename_i c b p u;split at h;cases h;rename_i q;exact⟨by cases j:a.spot with|none=>rfl|some _=>rw[j] at q;simp at q,c,b,p,u,h⟩;cases h
def Iy{j:Type}{R:Nat->j->Prop} :∀ {n:Nat},(∀i,i<n->∃x,R i x)->∃l:List j,Y l=n/\∀i x,l[i]?=Z x->R i x
 |0,_=>⟨[],Q,ag⟩
 |n+1,h=>by
  have⟨l,j,p⟩:=Iy (n:=n) λi A=>h i J;have⟨x,u⟩:=h n J;refine⟨l++[x],av j,λi y c=>?_⟩;by_cases e:i<n;rw[Jf J] at c;exact p i y c
  .have q:=(cR.mp c).1;simp[j] at q;have:i=n:=J
   subst this;rw[Hv J,j,r6] at c;cases c;exact u
def I6{f:e7->Option Ty} :∀ {c:List Field} {b n:Nat} {T:Ty},n9 P f b c=Z (T,n)->b<=n
 |[],b,n,T,h=>by simp[n9] at h;omega
 |x::c,b,n,T,h=>by unfold n9 at h;cases T:ar x.offset b;rw[T] at h;cases h;rw[T] at h;simp only[mi] at h;rcases T:f x.type with _|a;rw[T] at h;cases h;rw[T] at h;dsimp only at h;cases p:ar a.sz (P.cellsOf x.type);rw[p] at h;cases h;rw[p] at h;simp only[mi] at h;rcases j:n9 P f (b+a.sz) c with _|q;rw[j] at h;cases h;have⟨b,m⟩:=q;rw[j] at h;cases h;have:=I6 j;omega
def Oo(a:Addr)(n:Nat):(a.add n).block=a.block:=by unfold V8;split<;>rfl
def ZZ(a:Addr)(n:Nat):(a.add n).off=a.off+n:=by unfold V8;split;rename_i h;rw[h];rfl;rfl
def Pc(L:DY l ρ h w):Laid k l w .unit ρ h []:=⟨ρ,h,[],(),ρ.le_refl,.refl L.ok,L,.nil,Q,trivial,λv c=>(by cases c)⟩
def Rg{k:Option Nat} :∀ {u:Nat} {t:e7} {T:Ty},tyOf P u t=Z T->∀ {n:Nat} {g:List aa} {x:K6 H×List EL} {ρ:fP} {h:aB},vT r P w 0 (λ_=>cd) o n t g=Z x->WB k P t x.1->DY l ρ h w->(∃(k:Nat) (N:Array aa) (s:e7) (X:Nat×Nat),w.heap[k]?=Z (.cells N s X))->Laid k l w T ρ h g:=by
 intro u;induction u with
 |zero=>intro t T A;simp[tyOf] at A
 |succ u ih=>
  intro t T A n g x ρ h F hW L eF;unfold tyOf at A;split at A;rename_i I;cases A;obtain⟨b',rfl,_⟩:=DataW.trod_bool I F;exact⟨ρ,h,[dd b'],b',ρ.le_refl,.refl L.ok,L,.cons (.cell (.bool b')) .nil,Q,trivial,λv D=>by rw[br.1 D];exact fc Q⟩;rename_i x I;cases A;obtain⟨m,rfl,_⟩:=DataW.trod_int I F;exact⟨ρ,h,[.int x m],m,ρ.le_refl,.refl L.ok,L,.cons (.cell (.int x m)) .nil,Q,trivial,λv D=>by rw[br.1 D];exact fc Q⟩;rename_i I;cases A;obtain⟨e,rfl,_⟩:=DataW.trod_string I F;exact⟨ρ,h,[eT e],e,ρ.le_refl,.refl L.ok,L,.cons (.cell (.str e)) .nil,Q,trivial,λv D=>by rw[br.1 D];exact fc Q⟩
  .rename_i e I;split at A
   .rename_i a B;cases c:(eR 0 (P.bytesOf e)&&(ar a.sz (P.cellsOf e)&&eR 0 a.sz));rw[c] at A;cases A
    .rw[c] at A;cases A;simp only[pU] at c;have j:0<P.bytesOf e:=by simpa [j0] using c.1
     have S:=zN c.2.1;have Li:0<a.sz:=by simpa [j0] using c.2.2
     rcases DataW.trod_slice I F with⟨rfl,_⟩|⟨G,C,V',E,i,m,rfl,rfl,W,_,hlc,_,x,x,q,_⟩;exact⟨ρ,h,[c6 K 0 0],[],ρ.le_refl,.refl L.ok,L,.cons (.cell (.gE 0 0)) .nil,⟨_,Q,K,0,Q,fc ⟨Q,fc Q⟩⟩,⟨λ_ _=>kp _,λy p=>by cases p⟩,λv D=>by rw[br.1 D];exact fc Q⟩
     .obtain⟨d,q⟩:=q rfl;rw[<-S] at x q;have hWs:∀d,k=Z d->C<=d/\∀n∈yh P e (E.map (·.1)),n<=d:=by
       intro d M;have U:∀n∈oY P t (.slice (E.map (·.1)) (i.map (·.1))),n<=d:=by have:=hW d M;rw[W] at this;exact this
       rw[oY,I] at U;simp only[yd,bd,jL] at U;have f:=U _ (fc Q);refine⟨?_,λn b=>U n (ft (fc b))⟩;have h2:(Y E+Y i)*1<=(Y E+Y i)*P.bytesOf e:=Nat.mul_le_mul_left _ j;omega
      have j:∀i,i<C->∀y,E[i]?=Z y->WB k P e y.1:=by intro i _ y p d M;exact ZG M (hWs d M).2 (i:=i) (d:=y.1) (av p) d M
      have one:∀i,i<V'->∃b y,w.cells? 0 (G.add (i*a.sz)) a.sz=Z b/\vT r P w 0 (λ_=>cd) o m e b=Z y/\(i<C->WB k P e y.1):=by
       intro i O;have p:∃y,(w.cells? 0 (G.add (i*a.sz)) a.sz).bind (vT r P w 0 (λ_=>cd) o m e)=Z y/\(i<C->WB k P e y.1):=by by_cases dW:i<C;have f:=x i dW;obtain⟨y,p⟩:=aR E i;rw[p] at f;exact⟨_,f,λE=>j i E y p⟩;have f:=q (i-C) J;rw[show C+(i-C)=i by omega,iK J] at f;exact⟨_,f,λE=>absurd E dW⟩
       obtain⟨y,p,E⟩:=p;rw[OO] at p;obtain⟨b,j,p⟩:=p;exact⟨b,y,j,p,E⟩
      by_cases x:V'=0
      .subst x;have Sx:C=0:=J
       subst Sx;obtain⟨x,N,s,X,z⟩:=eF;obtain⟨V,hle,Ln,x,g'⟩:=L.add (acs:=[]) z (kp _) (λz v D=>by simp at D) (λv D=>by cases D);exact⟨V,_,[c6 (Z ⟨h.ax,0,K⟩) 0 0],[],hle,g',x,.cons (.cell (.slice Ln ⟨.inr ⟨Q,Q⟩,fc Q,fE _⟩)) .nil,⟨_,Q,_,0,Q,fc ⟨Q,ft ⟨_,_,Q⟩⟩⟩,⟨λ_ _=>kp _,λy p=>by cases p⟩,λv D=>by rw[br.1 D];exact ft (ft ⟨_,_,_,_,Q,sM _⟩)⟩
      .obtain⟨c0,y0,azJ,_⟩:=one 0 J;obtain⟨Sx,hg0⟩:=Ho azJ;have afC:=hg0 0 (c0[0]'J) (iK J);have asz:(G.add (0*a.sz)).add 0=G:=by simp[V8]
       rw[asz] at afC;obtain⟨hsp,N,s,X,ZE,s⟩:=aaa afC;have ak2:G.off<=N.size:=uo (Array.getElem?_eq_some_iff.mp s).1;have had:G=⟨G.block,G.off,K⟩:=by cases G;simp at hsp;simp[hsp]
       obtain⟨css,N,OV⟩:=Iy (n:=C) (R:=λi b=>w.cells? 0 (G.add (i*a.sz)) a.sz=Z b/\∃y,vT r P w 0 (λ_=>cd) o m e b=Z y/\WB k P e y.1) (λi O=>by obtain⟨b,y,f,h2,s⟩:=one i J;exact⟨b,f,y,h2,s O⟩);have dF:∀s∈css,Y s=a.sz:=by intro s j;obtain⟨i,O,rfl⟩:=List.mem_iff_getElem.mp j;exact(Ho (OV i _ (iK O)).1).1
       obtain⟨X,m1,X,ys,l1,g1,L1,k1,r1,b1,o1⟩:=UD (k:=k) (e:=a) L (css:=css) (λs j V h' x=>by obtain⟨i,O,rfl⟩:=List.mem_iff_getElem.mp j;obtain⟨_,y,p,E⟩:=OV i _ (iK O);exact ih B p E x eF);have aap:=Oq k1;obtain⟨ρ2,l2,Ln,L2,g2⟩:=L1.add (acs:=X.flatten) ZE ak2 (λz v D=>by
        obtain⟨s,j,hkr⟩:=aap.get D;obtain⟨b,hci,b⟩:=TP Li dF j;have asI:=(Ho (OV _ _ hci).1).2 _ _ b;obtain⟨_,b,b,b,b,asW⟩:=aaa asI;have asC:((G.add (z/a.sz*a.sz)).add (z%a.sz)).block=G.block:=by rw[Oo,Oo]
        have atc:((G.add (z/a.sz*a.sz)).add (z%a.sz)).off=G.off+(z/a.sz*a.sz)+z%a.sz:=by rw[ZZ,ZZ]
        rw[asC,ZE] at b;cases b;refine⟨s,?_,hkr⟩;rw[atc,DJ,Nat.mul_comm,Nat.div_add_mod] at asW;exact asW) (λv D=>by
        obtain⟨z,G,b⟩:=List.mem_flatten.1 D;exact o1 z G v b)
       have z:Y ys=C:=by rw[<-r1.length,k1.length,N]
       refine⟨ρ2,_,[c6 (Z ⟨m1.ax,0,K⟩) C V'],ys,fP.le_trans l1 l2,g1.trans g2,L2,.cons (.cell (.slice Ln ⟨.inl had,fc Q,hlc⟩)) .nil,⟨_,Q,_,V',by rw[z],ft ⟨m1.ax,0,X.flatten,cd,0,0,Q,by simp[aB.new,Tr.bS],λi y p=>?_⟩⟩,⟨λd M=>by rw[z];exact(hWs d M).1,b1⟩,λv D=>by rw[br.1 D];exact ft (ft ⟨_,_,_,_,Q,sM _⟩)⟩;have dW:=(cR.mp p).1;have D:i<Y X:=by rw[r1.length];exact dW
       obtain⟨z,z,C⟩:=r1.get (iK D);rw[p] at z;cases z;have b:∀s∈X,Y s=a.sz:=by intro s j;obtain⟨i,O,rfl⟩:=List.mem_iff_getElem.mp j;obtain⟨y,_,z⟩:=r1.get (iK O);exact JO z
       have z:=Cz b (iK D);rw[Je,z];exact⟨JO C,zq L1.ok g2 C⟩
   cases A
  .rename_i fs I;split at A
   .rename_i a m C;cases c:ar m (P.cellsOf t);rw[c] at A;cases A;rw[c] at A;cases A;obtain⟨z,kf,rfl,W,N,Bh,X⟩:=DataW.trod_struct I F;have G:∀(s:List Field)(b m:Nat)(T:Ty)(ρ:fP)(h:aB),(∀D∈s,∃y,vT r P w 0 (λ_=>cd) o kf D.type ((g.drop D.offset).take (P.cellsOf D.type))=Z y/\WB k P D.type y.1)->n9 P (tyOf P u) b s=Z (T,m)->m<=Y g->DY l ρ h w->Laid k l w T ρ h ((g.drop b).take (m-b)):=by
     intro s;induction s with
     |nil=>
      intro b m T ρ h _ C _ L;simp only[n9,oN,CB] at C;obtain⟨rfl,rfl⟩:=C;rw[r6,oj];exact Pc L
     |cons D s ihf=>
      intro b m T ρ h p C hm L;unfold n9 at C;cases c:ar D.offset b;rw[c] at C;cases C
      .rw[c] at C;simp only[mi] at C;have anj:=zN c;rcases B:tyOf P u D.type with _|a
       rw[B] at C;cases C
       .rw[B] at C;dsimp only at C;cases j:ar a.sz (P.cellsOf D.type);rw[j] at C;cases C
        .rw[j] at C;simp only[mi] at C;have S:=zN j;rcases q:n9 P (tyOf P u) (b+a.sz) s with _|u
         rw[q] at C;cases C;obtain⟨b',j⟩:=u;rw[q] at C;cases C;have hle:=I6 q;obtain⟨y,j,E⟩:=p D (iz ..);rw[anj,<-S] at j;have s:(g.drop b).take (m-b)=(g.drop b).take a.sz++(g.drop (b+a.sz)).take (m-(b+a.sz)):=by rw[<-pa,show m-b=a.sz+(m-(b+a.sz)) by omega,B7]
         rw[s];exact Pa (ih B j E L eF) λV h' x=>ihf _ _ _ _ _ (λg' j=>p g' (vU _ j)) q hm x
    have:=G fs.toList 0 m T ρ h (λD C=>by
     obtain⟨i,O,rfl⟩:=List.mem_iff_getElem.mp C;have f:=X i (fs.toList[i]) ag;obtain⟨y,p⟩:=aR z i (by rw[Bh];simpa using O);rw[p] at f;refine⟨_,f,λd M=>?_⟩;have U:∀n∈oY P t (.agg (z.map (·.1))),n<=d:=by have:=hW d M;rw[W] at this;exact this
     rw[oY,I] at U;exact aa6 U (i:=i) (by simp;exact⟨_,Array.getElem?_eq_getElem (ak O),ag⟩) (av p)) C (by rw[N,zN c];exact fE _) L
    rw[zN c,<-N] at this;simpa using this
   cases A
  .rename_i m e I;split at A
   .rename_i a B;cases c:(ar a.sz (P.cellsOf e)&&ar (m*a.sz) (P.cellsOf t));rw[c] at A;cases A;rw[c] at A;cases A;simp only[pU] at c;have S:=zN c.1;have C:=zN c.2;obtain⟨z,kf,rfl,W,N,Bh,X⟩:=DataW.trod_array I F;rw[<-S] at X;have G:∀(u b:Nat)(ρ:fP)(h:aB),b+u=m->DY l ρ h w->Laid k l w (a.rep u) ρ h (g.drop (b*a.sz)):=by
     intro u;induction u with
     |zero=>
      intro b ρ h S L;rw[Gb (by rw[N,<-C];exact Gd _ J)];exact Pc L
     |succ u u=>
      intro b ρ h S L;have f:=X b J;obtain⟨y,p⟩:=aR z b;rw[p] at f;have E:WB k P e y.1:=by
       intro d M;have U:∀n∈oY P t (.agg (z.map (·.1))),n<=d:=by have:=hW d M;rw[W] at this;exact this
       rw[oY,I] at U;exact ZG M U (i:=b) (av p) d M
      have s:g.drop (b*a.sz)=(g.drop (b*a.sz)).take a.sz++g.drop ((b+1)*a.sz):=by rw[qB,Nat.one_mul,<-pa,List.take_append_drop]
      rw[s];exact Pa (ih B f E L eF) λV h' x=>u (b+1) V h' J x
    have:=G m 0 ρ h J L;simpa using this
   cases A
  cases A
end
end Go.AI
namespace Go.AI
variable{b:Bool}{op:kD}{t:Nat}
section
variable{F:Nat->Option cY}{R:Env->aB->Prop}{e:Env}{h:aB}{l:List cn}{d:Option Nat}{k:Nat}{m:List (cn×List Nat)}{a:List Nat}
def Pr{R:Env->aB->Prop}(q:bX e t=.tuple #[]):Fo F ⟨d,Z (t,b),op⟩ e h R↔R (gG e d (.tuple #[])) h:=by
 have p:wanted e (Z (t,b))=b9:=by simp[wanted,q]
 have a:∀n,dL F (run F n) ⟨d,Z (t,b),op⟩ e h=Z (gG e d (.tuple #[]),h):=by intro n;unfold dL;dsimp only;rw[p];rfl
 constructor;rintro⟨n,n,j,j,c⟩;rw[a] at j;cases j;exact c;intro c;exact⟨0,_,_,a 0,c⟩
@[simp ↓] def aFP(c:bX e t=.tuple #[]):bm F (⟨d,Z (t,b),op⟩::l) e h R↔bm F l (gG e d (.tuple #[])) h R:=by rw[u6,Pr c]
@[simp ↓] def aCh(c:bX e t=.tuple #[]):ck F k ((⟨d,Z (t,b),op⟩,a)::m) e h R↔(still (gG e d (.tuple #[])) h k a=cd/\ck F k m (gG e d (.tuple #[])) h R):=by rw[qW,Pr c]
end
end Go.AI
namespace Go.AI
open Go.ChangeShapes Go.WideShapes Go.ChangeAt
def MU(agg:Bool)(a:List aa):aa:=bif agg then eU ⟨a⟩ else a.headD (.tuple #[])
def aggT(P:b7)(t:e7):Bool:=match P.underlying t with
 |some (.struct _)=>cd
 |some (.array _ _)=>cd
 |_=>b9
section
variable{H:Type}{o:e7×aa->H}{P:b7}{w:c5}{i:Bool}{f:dy}
def abH(k:Option Nat)(f:dy)(w:c5)(agg:Bool)(T:Ty)(b:fP)(h:aB)(v:aa):Prop:=
 ∃j a c y,b.le j/\az aV h a/\DY f j a w/\VR j (MU agg c) v/\rep T a c y/\Bd k T y/\∀v∈c,oD a.ax v
def laidV_of{k:Option Nat}{d:Nat}{t:e7}{T:Ty}{q:Nat}{v:aa}{G:K6 H}{L:List EL}{p:fP}{h:aB}(u:tyOf P d t=Z T)(j:w3 P w .any q t v)(D:DataW.Trod o P w 0 (λ_=>cd) i t v G L)(C:WB k P t G)(L:DY f p h w)(O:∃(k:Nat) (U:Array aa) (G:e7) (N:Nat×Nat),w.heap[k]?=Z (.cells U G N)):abH k f w (aggT P t) T p h v:=by
 have⟨n,D⟩:=D;have⟨E,h,p,y,l,g,I,A,r⟩:=Rg u D C L O;refine⟨E,h,p,y,l,g,I,?_,r⟩;unfold MU;have C:aggT P t=b9->(∀a,v≠ eU a)->VR E (bif aggT P t then eU ⟨p⟩ else p.headD (.tuple #[])) v:=by
  intro b V;have p:v.cells.toList=[v]:=by cases v<;>first|rfl|exact absurd rfl (V _)
  rw[p] at A;rw[b];cases A with
  |cons p V=>exact p.vr
 cases d with
 |zero=>simp[tyOf] at u
 |succ d=>
  unfold tyOf at u;split at u;rename_i c;obtain⟨d,rfl⟩:=okWide_bool c j;exact C (by simp[aggT,c]) (λ_ e=>by cases e);rename_i p c;obtain⟨d,rfl⟩:=okWide_int c j;exact C (by simp[aggT,c]) (λ_ e=>by cases e);rename_i c;obtain⟨d,rfl⟩:=okWide_string c j;exact C (by simp[aggT,c]) (λ_ e=>by cases e);rename_i e c;obtain⟨M,M,M,rfl⟩:=okWide_slice c j;exact C (by simp[aggT,c]) (λ_ e=>by cases e)
  .rename_i C c;simp only[w3,c] at j;obtain⟨a,rfl,_⟩:=j;have b:aggT P t=cd:=by simp[aggT,c]
   rw[b];have⟨C⟩:=a;exact .val (.agg A)
  .rename_i m e c;simp only[w3,c] at j;obtain⟨a,rfl,_⟩:=j;have b:aggT P t=cd:=by simp[aggT,c]
   rw[b];have⟨C⟩:=a;exact .val (.agg A)
  cases u
def lain_heap1{a:List aa}(C:∀v∈a,dt v=cd){w:c5}(p:∃u A,w.heap[0]?=Z (.cells ⟨a⟩ u A)):DY f (λb=>if b=0 then Z ⟨0,0,Y a,0,Y a⟩ else K) (OY a) w:=by
 have⟨u,A,p⟩:=p;have q:∀b o,(OY a).tr.get b=Z o->b=0/\o=.ch a cd 0 0:=by
  intro b o h;cases b with
  |zero=>simp only[OY,Tr.get,oN] at h;exact⟨Q,h.symm⟩
  |succ b=>
   simp only[OY,Tr.get] at h;cases D:ar (b%2) 0<;>rw[D] at h<;>simp at h
 have D:∀b,¬fU (OY a) b:=by rintro b⟨o,y,E⟩;rw[(q b o y).2] at E;cases E
 refine⟨⟨λb o h=>?_,λb c I o s h=>?_⟩,D,⟨λb r h=>?_,λb r o h y=>?_,λb G r G o _ _ p=>absurd p (D b),λb o h=>?_⟩,λb o h=>?_⟩;rw[(q b o h).1];exact zp;have:=(q b _ h).2;cases this;exact fE _
 by_cases e:b=0;simp only[e,if_true,oN] at h;subst h;subst e;exact⟨zp,(Array.getElem?_eq_some_iff.mp p).1⟩;simp[e] at h;obtain⟨rfl,rfl⟩:=q b o y;simp only[if_true,oN] at h;subst h;exact⟨⟨a⟩,u,A,p,Q,Q,ag,(λh=>by cases h),λj v u=>⟨v,ak u,.cell (nu (C v (cK u)))⟩⟩;rw[(q b o h).1];exact zp;exact⟨_,_,_,_,(q b o h).2,λv u=>fc (NH (C v u))⟩
end
end Go.AI
namespace Go.Proofs.YtdhnndleffachaaGreatDoor
open Go.AI
noncomputable def funcAt(f:Nat):Option Func:=Tryz.prog.funcs[f]?
def abF:∀f a,funcAt f=Z a->Tryz.prog.funcs[f]?=Z a:=λ_ _ h=>h
noncomputable def FF0:Nat->Option cY:=Sl (QL Tryz.prog 1 funcAt) 218
noncomputable def FF1:Nat->Option cY:=Nc FF0 166 2
noncomputable def FF:Nat->Option cY:=Nd FF1 197 198
set_option maxRecDepth 100000
def jY:aG:=(y_ 13 5 21 2 3 22 (R_ 14 1 1 3 4 (U_ 18 3 17 [])) (V_ (m_ 24 4::rS 25 1 1 3 4 (rS 29 3 28 5 6 (fJ 33 0 32 (z_ 35 34::B_ 36 .add 24 35::rS 37 1 1 3 4 (rS 41 3 40 5 6 (fJ 45 1 44 [z_ 47 46,B_ 48 .add 36 47,m_ 4 48]))))))))
def qc:aG:=(y_ 6 3 10 0 1 11 (U_ 7 1 1 []) (G_ [k_ 4 0] (J_ (G_ [k_ 5 0] (Q_ 2 jY)) (G_ (R_ 49 1 1 3 4 (U_ 53 3 52 (C_ 56 .gtr 55 24::m_ 57 56::S_ 58 57 b9 [.mv (t_ 4),.bin .gtr [] (t_ 58) (i_ 120)] [o_ 60 (.pick (t_ 57) (b_ cd) (t_ 59))]))) (I_ 60 (G_ [M_ 2 cd] .ret) .skip)))))
def sr:aG:=(G_ [x_ 1 0,M_ 2 b9] (J_ (G_ [k_ 3 0] (Q_ 0 qc)) (G_ (U_ 61 1 1 [C_ 64 .gtr 63 10,m_ 2 64]) .ret)))
theorem gp(n:Nat)l c(h:FF n=Z ⟨l,c,.no⟩:=by kernel_rfl):FF n=Z ⟨l,c,.no⟩:=h
def BH:=gp 11 [.tmp 2] sr
def DQ:aG:=(N_ 17 16 15 0 1 28 (G_ [m_ 18 16,a_ 19 4 14 16,L_ 20 4 19,K_ 5 DV,m_ 4 18,s_ 4 5 20] (G_ [L_ 21 4 5,F_ 22 35 [t_ 21],m_ 6 22] (G_ [m_ 23 6,Y_ 24 .neq 23 0] (I_ 24 (G_ [m_ 25 6,m_ 26 4,F_ 27 36 [t_ 25,t_ 26],s_ 2 2 27] .ret) .skip)))))
def Io:aG:=(G_ [x_ 1 0,K_ 2 Na] (J_ (G_ [L_ 7 2 1,F_ 8 34 [t_ 7],K_ 3 Na,s_ 2 3 8] (G_ [L_ 9 2 3,o_ 10 (.build Na []),o_ 11 (.bin .neq [9,1,1] (t_ 9) (t_ 10))] (I_ 11 (G_ [L_ 12 2 3,s_ 2 2 12] .ret) .skip))) (J_ (G_ (U_ 13 1 1 [k_ 16 0]) (Q_ 0 DQ)) (G_ [o_ 29 (.build Na []),s_ 2 2 29] .ret))))
def Tb:=gp 13 [.cell 2 (Z 2)] Io
def vG:aG:=(G_ [x_ 1 0,M_ 2 b9] (G_ (U_ 3 0 1 (Y_ 6 .eql 5 0::m_ 7 6::S_ 8 7 cd [.cD 1 (t_ 1),.load K (t_ 8),.ox (t_ 9),.bin .eql [1] (t_ 10) (i_ 0)] [o_ 12 (.pick (t_ 7) (t_ 11) (b_ b9)),m_ 2 12])) .ret))
def Ev:=gp 14 [.tmp 2] vG
def lM:aG:=(y_ 30 6 34 2 3 35 (U_ 31 1 1 []) (V_ (fJ 37 1 3 (rS 39 1 1 6 4 [L_ 43 4 42,(F_ 44 37 [t_ 43],[37]),v_ 45 DV 4 44,A_ 46 DV 56 38 45,f_ 47 1 3,s_ 1 47 46]))))
def lQ:aG:=(y_ 7 4 11 0 1 12 (U_ 8 0 1 []) (G_ (R_ 14 0 1 4 3 [L_ 18 3 17,K_ 5 YT,s_ 3 5 18]) (G_ (o_ 19 (.fC 0 [] [])::W_ 20 2 5 [A_ 22 Ba 8 19 21,f_ 23 2 5,s_ 1 23 22]) (O_ (W_ 24 0 3 [L_ 26 3 5,v_ 27 YT 3 26,A_ 28 YT 48 25 27,f_ 29 0 3,s_ 1 29 28])))))
def vw:aG:=(G_ [x_ 1 0,K_ 2 VL] (G_ [K_ 3 VL] (J_ (G_ [k_ 4 0] (Q_ 0 lQ)) (J_ (G_ [k_ 6 0] (Q_ 2 lM)) (G_ [L_ 48 2 3,s_ 2 2 48] .ret)))))
def Ej:=gp 15 [.cell 2 (Z 2)] vw
def tg:aG:=(P_ 1 (G_ [L_ 9 4 3,F_ 10 40 [t_ 9],m_ 4 10] (J_ (G_ [m_ 11 4,C_ 12 .lss 11 0] (I_ 12 (G_ [L_ 13 4 3,F_ 14 41 [t_ 13],s_ 4 2 14] .ret) .skip)) (O_ [L_ 15 4 3,m_ 16 4,F_ 17 42 [t_ 15,t_ 16],s_ 4 3 17]))))
def vv:aG:=(G_ [x_ 1 0,K_ 2 DV] (J_ (V_ [L_ 5 4 1,L_ 6 4 1,K_ 3 DV,(F_ 7 39 [t_ 6],[1]),(F_ 8 38 [t_ 5,t_ 7],[3]),s_ 4 3 8]) (Q_ 0 tg)))
def Ei:=gp 17 [.cell 2 (Z 4)] vv
def qG:aG:=(y_ 10 9 14 0 1 15 (U_ 11 1 7 []) (G_ (R_ 17 1 7 9 4 [L_ 21 4 20,F_ 22 45 [t_ 21]]) (I_ 22 (J_ (V_ [L_ 23 2 6,m_ 24 9,(F_ 25 46 [(i_ 10),t_ 24],[6]),o_ 26 (.bin .eql [9,1,1] (t_ 23) (t_ 25)),m_ 27 26,q_ 28 27 cd (.load (Z 2) (t_ 5)),q_ 29 27 cd (.call (.func 14) [t_ 28]),o_ 30 (.pick (t_ 27) (t_ 29) (b_ b9)),m_ 8 30]) .ret) .skip)))
def ua:aG:=(G_ [x_ 4 0,x_ 5 1,x_ 6 2,x_ 7 3,M_ 8 b9] (J_ (G_ [k_ 9 0] (Q_ 0 qG)) (G_ (L_ 31 2 6::o_ 32 (.build Na [])::o_ 33 (.bin .eql [9,1,1] (t_ 31) (t_ 32))::m_ 34 33::S_ 35 34 cd [.load (Z 2) (t_ 5),.load (Z 2) (t_ 7),.call (.func 47) [t_ 35,t_ 36]] [o_ 38 (.pick (t_ 34) (t_ 37) (b_ b9)),m_ 8 38]) .ret)))
def C0:=gp 19 [.tmp 8] ua
def wG:aG:=(N_ 39 38 37 2 3 57 (G_ [m_ 40 38,a_ 41 4 36 38,L_ 42 4 41,K_ 9 DV,m_ 8 40,s_ 4 9 42] (G_ [m_ 43 1,L_ 44 4 9,F_ 45 69 [t_ 44],o_ 46 (.call (t_ 43) [t_ 45]),s_ 4 9 46] (J_ (G_ [L_ 47 4 9,F_ 48 70 [t_ 47]] (I_ 48 (G_ [o_ 49 (.build VL []),m_ 50 8,F_ 51 36 [(i_ 10),t_ 50],s_ 2 4 49,s_ 2 5 51] .ret) .skip)) (O_ (W_ 52 1 2 [m_ 54 8,L_ 55 4 9,a_ 56 4 53 54,s_ 4 56 55]))))))
def wH:aG:=(N_ 18 17 16 0 1 30 (G_ [m_ 19 17,a_ 20 3 15 17,L_ 21 3 20,K_ 7 YT,m_ 6 19,s_ 3 7 21] (V_ (fJ 22 0 2 (m_ 24 6::fJ 25 2 7 [(F_ 27 67 [t_ 26],[22]),a_ 28 3 23 24,f_ 29 2 28,s_ 1 29 27])))))
def FA:aG:=(G_ [x_ 2 0,K_ 4 VL,K_ 5 Na] (G_ (W_ 10 0 2 [F_ 12 66 [t_ 11],f_ 13 0 2,s_ 1 13 12]) (J_ (G_ (U_ 14 0 2 [k_ 17 0]) (Q_ 0 wH)) (G_ (W_ 31 1 2 [F_ 33 68 [t_ 32],f_ 34 1 2,s_ 1 34 33]) (J_ (G_ (U_ 35 1 2 [k_ 38 0]) (Q_ 2 wG)) (G_ [L_ 58 2 2,o_ 59 (.build Na []),s_ 2 4 58,s_ 2 5 59] .ret))))))
def Qi:=gp 31 [(.cell 4 (Z 2)),(.cell 5 (Z 2))] FA
def wh:aG:=(N_ 108 107 106 5 6 122 (G_ [m_ 109 107,a_ 110 4 105 107,L_ 111 4 110,K_ 13 DV,m_ 12 109,s_ 4 13 111] (G_ [L_ 112 2 1,L_ 113 4 13,o_ 114 (.build akv [(0,(2,(t_ 112))),(2,(4,(t_ 113)))]),K_ 14 akv,s_ 7 14 114] (G_ [L_ 115 7 14,F_ 116 82 [t_ 115],m_ 15 116] (G_ [m_ 117 15,Y_ 118 .neq 117 0] (I_ 118 (G_ [m_ 119 15,m_ 120 12,F_ 121 36 [t_ 119,t_ 120],s_ 2 2 121] .ret) .skip))))))
def wo:aG:=(N_ 83 82 81 3 4 103 (G_ [m_ 84 82,a_ 85 4 80 82,L_ 86 4 85,K_ 9 DV,m_ 8 84,s_ 4 9 86] (G_ [L_ 87 2 1,L_ 88 4 9,o_ 89 (.build akv [(0,(2,(t_ 87))),(2,(4,(t_ 88)))]),K_ 10 akv,s_ 7 10 89] (J_ (G_ [L_ 90 7 10,m_ 91 3,F_ 92 81 [t_ 90,t_ 91],m_ 11 92] (G_ [m_ 93 11,Y_ 94 .neq 93 0] (I_ 94 (G_ [m_ 95 11,m_ 96 8,F_ 97 36 [t_ 95,t_ 96],s_ 2 2 97] .ret) .skip))) (O_ (m_ 98 3::W_ 99 0 9 [v_ 101 akw 1 100,A_ 102 akw 16 98 101,m_ 3 102]))))))
def KQ:aG:=(P_ 2 (G_ (W_ 37 0 6 [F_ 39 78 [t_ 38],o_ 40 (.un .not (t_ 39)),m_ 36 40]) (I_ 36 (O_ [k_ 7 12]) (G_ (m_ 42 3::W_ 43 0 6 [F_ 45 79 [t_ 42,t_ 44],m_ 41 45]) (I_ 41 (O_ [k_ 7 7]) (G_ (W_ 47 1 6 [F_ 49 80 [t_ 48,(i_ 1),(i_ 200)],o_ 50 (.un .not (t_ 49)),m_ 46 50]) (I_ 46 (O_ [k_ 7 3]) (G_ (U_ 52 2 6 (W_ 55 1 6 [B_ 57 .gtr 54 56,m_ 51 57])) (I_ 51 (O_ [k_ 7 9]) (G_ (m_ 59 4::W_ 60 1 6 [B_ 62 .add 59 61,C_ 63 .gtr 62 200,m_ 58 63]) (I_ 58 (O_ [k_ 7 10]) .skip)))))))))))
def afg:aG:=(J_ (G_ [m_ 64 7,Y_ 65 .neq 64 0] (I_ 65 (G_ [m_ 66 7,m_ 67 5,F_ 68 36 [t_ 66,t_ 67],s_ 2 2 68] .ret) .skip)) (G_ (m_ 69 3::W_ 70 0 6 [v_ 72 akw 1 71,A_ 73 akw 16 69 72,m_ 3 73]) (O_ (m_ 74 4::W_ 75 1 6 [B_ 77 .add 74 76,m_ 4 77]))))
def wq:aG:=(N_ 32 31 30 0 1 78 (G_ [m_ 33 31,a_ 34 3 29 31,L_ 35 3 34,K_ 6 YT,m_ 5 33,s_ 3 6 35] (G_ [k_ 7 0] (J_ KQ afg))))
def Ft:aG:=(G_ [x_ 1 0,K_ 2 Na] (J_ (G_ (U_ 17 0 1 (C_ 20 .gtr 19 10::m_ 21 20::S_ 22 21 b9 [.cD 1 (t_ 1),.load K (t_ 22),.ox (t_ 23),.bin .gtr [] (t_ 24) (i_ 10)] [o_ 26 (.pick (t_ 21) (b_ cd) (t_ 25))])) (I_ 26 (G_ [F_ 27 36 [(i_ 2),(i_ 0)],s_ 2 2 27] .ret) .skip)) (G_ [Z_ 3] (G_ [k_ 4 0] (J_ (G_ (U_ 28 0 1 [k_ 31 0]) (Q_ 0 wq)) (J_ (G_ (U_ 79 1 1 [k_ 82 0]) (Q_ 3 wo)) (J_ (G_ (U_ 104 1 1 [k_ 107 0]) (Q_ 5 wh)) (G_ (W_ 123 1 1 [F_ 125 83 [t_ 124,(.func 84)],m_ 16 125]) (J_ (G_ [m_ 126 16,C_ 127 .lss 126 0] (I_ 127 (G_ [F_ 128 36 [(i_ 6),(i_ 0)],s_ 2 2 128] .ret) .skip)) (J_ (G_ (R_ 129 1 1 16 4 (W_ 133 1 132 [C_ 135 .gtr 134 0])) (I_ 135 (G_ [m_ 136 16,F_ 137 36 [(i_ 5),t_ 136],s_ 2 2 137] .ret) .skip)) (G_ [o_ 138 (.build Na []),s_ 2 2 138] .ret)))))))))))
def Qc:=gp 34 [.cell 2 (Z 2)] Ft
def DF:aG:=(G_ [x_ 1 0,k_ 2 0] (J_ (V_ (L_ 4 4 1::L_ 5 4 1::o_ 7 (.build Na [(0,(1,(.const (dC ef (bL 0))))),(1,(1,(.const (dC ef (bL 0)))))])::v_ 8 Na 2 7::fJ 9 2 1 [(F_ 6 85 [t_ 5],[8,9]),(F_ 11 86 [t_ 8,t_ 10],[1]),(⟨(Z 12),K,(.build [(eT ⟨⟨[]⟩⟩),(dC ef 0),(dC ef 0),(c6 K 0 0),(c6 K 0 0),(c6 K 0 0)] [(0,(4,(t_ 4))),(4,(1,(t_ 6))),(5,(1,(t_ 11)))])⟩,[]),x_ 13 12,m_ 3 13])) (J_ (P_ 0 (J_ (V_ (L_ 15 4 1::fJ 18 3 1 [z_ 20 19,(F_ 16 87 [t_ 15],[18]),z_ 17 16,B_ 21 .lss 17 20,m_ 14 21])) (I_ 14 (G_ [k_ 2 5] .ret) (G_ [m_ 23 3,F_ 24 88 [t_ 23],o_ 25 (.un .not (t_ 24)),m_ 22 25] (I_ 22 (G_ [k_ 2 7] .ret) (G_ [m_ 27 3,F_ 28 89 [t_ 27],o_ 29 (.un .not (t_ 28)),m_ 26 29] (I_ 26 (G_ [k_ 2 6] .ret) .skip))))))) (G_ [k_ 2 0] .ret))))
def NB:=gp 35 [.tmp 2] DF
def Fx:aG:=(G_ [K_ 4 Na] (G_ [m_ 5 0,m_ 6 1,o_ 7 (.build Na [(0,(1,(t_ 5))),(1,(1,(t_ 6)))]),s_ 2 4 7] .ret))
def Qf:=gp 36 [.cell 4 (Z 2)] Fx
def lx:aG:=(y_ 12 4 16 0 1 17 (U_ 13 3 1 []) (V_ (fJ 19 3 3 (rS 21 3 1 4 6 [L_ 25 6 24,(F_ 26 90 [t_ 25],[19]),v_ 27 Fg 6 26,A_ 28 Fg 96 20 27,f_ 29 3 3,s_ 1 29 28]))))
def vq:aG:=(G_ [x_ 1 0,K_ 2 DV] (G_ (W_ 5 0 1 (W_ 7 1 1 (W_ 9 2 1 [o_ 11 (.build DV [(0,(1,(t_ 6))),(1,(1,(t_ 8))),(2,(1,(t_ 10)))]),K_ 3 DV,s_ 4 3 11]))) (J_ (G_ [k_ 4 0] (Q_ 0 lx)) (G_ [L_ 30 4 3,s_ 4 2 30] .ret))))
def Ee:=gp 37 [.cell 2 (Z 4)] vq
def lz:aG:=(y_ 88 13 93 6 7 94 (f_ 89 2 7::U_ 90 3 89 []) (V_ (f_ 96 2 7::fJ 97 3 96 (m_ 99 13::m_ 100 1::f_ 101 2 7::rS 102 3 101 13 1 [l_ 106 105,(F_ 107 92 [t_ 100,t_ 106],[97]),a_ 108 1 98 99,s_ 1 108 107]))))
def lC:aG:=(y_ 54 11 57 4 5 58 [m_ 55 9,z_ 56 55] (G_ (m_ 60 1::T_ 61 9 11 3 (W_ 64 0 63 [F_ 66 92 [t_ 60,t_ 65],m_ 12 66])) (G_ [m_ 67 12,C_ 68 .geq 67 0] (I_ 68 (O_ (m_ 69 10::m_ 70 12::T_ 71 9 11 3 [f_ 74 1 73,L_ 75 2 74,o_ 76 (.build VN [(0,(1,(t_ 70))),(1,(2,(t_ 75)))]),v_ 77 VN 3 76,A_ 78 VN 24 69 77,m_ 10 78])) .skip))))
def lD:aG:=(y_ 36 8 40 2 3 41 (U_ 37 0 7 []) (J_ (V_ (L_ 43 4 2::Si 44 1 6 1 (l_ 47 46::rS 48 0 7 8 2 [L_ 52 2 51,F_ 53 91 [t_ 43,t_ 47,t_ 52],m_ 9 53]))) (G_ [Z_ 10] (J_ (G_ [k_ 11 0] (Q_ 4 lC)) (V_ (fJ 79 0 7 [m_ 81 8,m_ 82 10,m_ 83 1,z_ 84 83,(F_ 85 93 [t_ 82,t_ 84],[79]),a_ 86 2 80 81,f_ 87 1 86,s_ 1 87 85]))))))
def lJ:aG:=(y_ 21 6 24 0 1 25 [m_ 22 1,z_ 23 22] (J_ (V_ (fJ 27 3 2 (Si 29 1 6 1 [l_ 32 31,a_ 33 6 28 32,L_ 34 6 33,K_ 7 Fg,(F_ 35 90 [t_ 34],[7]),s_ 6 7 35]))) (J_ (G_ [k_ 8 0] (Q_ 2 lD)) (J_ (G_ [k_ 13 0] (Q_ 6 lz)) (O_ (W_ 109 3 5 [L_ 111 6 7,v_ 112 Fg 6 111,A_ 113 Fg 96 110 112,f_ 114 3 5,s_ 1 114 113]))))))
def vt:aG:=(G_ [x_ 2 0,K_ 4 DV] (G_ (W_ 14 0 2 (W_ 16 1 2 (W_ 18 2 2 [o_ 20 (.build DV [(0,(1,(t_ 15))),(1,(1,(t_ 17))),(2,(1,(t_ 19)))]),K_ 5 DV,s_ 4 5 20]))) (J_ (G_ [k_ 6 0] (Q_ 0 lJ)) (G_ [L_ 115 4 5,s_ 4 4 115] .ret))))
def Ef:=gp 38 [.cell 4 (Z 4)] vt
def qJ:aG:=(J_ (G_ [m_ 15 6,C_ 16 .geq 15 0] (H_ 16 0)) (J_ (P_ 1 (O_ (m_ 19 5::T_ 20 4 6 1 [l_ 23 22,v_ 24 Ba 1 23,A_ 25 Ba 8 19 24,m_ 5 25]))) (O_ [m_ 17 6,C_ 18 .sub 17 1,m_ 6 18])))
def ui:aG:=(G_ [x_ 1 0,Z_ 2] (G_ [L_ 8 4 1,F_ 9 94 [t_ 8,(i_ 0),(.const (c6 K 0 0)),(.const (c6 K 0 0))],m_ 7 9,E_ 10 0 7,E_ 11 1 7,m_ 3 10,m_ 4 11] (G_ [Z_ 5] (J_ (G_ [m_ 12 4,z_ 13 12,C_ 14 .sub 13 1,m_ 6 14] (Q_ 0 qJ)) (G_ [m_ 26 5,m_ 2 26] .ret)))))
def C9:=gp 39 [.tmp 2] ui
def qL:aG:=(J_ (G_ [m_ 9 3,C_ 10 .geq 9 0] (H_ 10 0)) (J_ (P_ 1 (G_ (R_ 13 3 1 3 6 [f_ 17 2 16,L_ 18 4 17,K_ 4 Tt,s_ 4 4 18]) (J_ (V_ (fJ 19 0 4 [Y_ 21 .eql 20 2,m_ 22 21,q_ 23 22 cd (.cD 3 (t_ 4)),q_ 24 22 cd (.load K (t_ 23)),q_ 25 22 cd (.ee K 1 (t_ 24) (i_ 0)),q_ 26 22 cd (.load K (t_ 25)),q_ 27 22 cd (.mv (t_ 3)),q_ 28 22 cd (.bin .neq [1] (t_ 26) (t_ 27)),o_ 29 (.pick (t_ 22) (t_ 28) (b_ b9)),m_ 30 29,q_ 31 30 cd (.cD 3 (t_ 1)),q_ 32 30 cd (.load K (t_ 31)),q_ 33 30 cd (.cD 3 (t_ 4)),q_ 34 30 cd (.load K (t_ 33)),q_ 35 30 cd (.ee K 1 (t_ 34) (i_ 0)),q_ 36 30 cd (.load K (t_ 35)),q_ 37 30 cd (.ee K 6 (t_ 32) (t_ 36)),q_ 38 30 cd (.cD 0 (t_ 37)),q_ 39 30 cd (.load K (t_ 38)),q_ 40 30 cd (.ox (t_ 39)),q_ 41 30 cd (.bin .eql [1] (t_ 40) (i_ 0)),o_ 42 (.pick (t_ 30) (t_ 41) (b_ b9)),m_ 43 42,q_ 44 43 cd (.load (Z 4) (t_ 1)),q_ 45 43 cd (.cD 3 (t_ 4)),q_ 46 43 cd (.load K (t_ 45)),q_ 47 43 cd (.ee K 1 (t_ 46) (i_ 0)),q_ 48 43 cd (.load K (t_ 47)),q_ 49 43 cd (.call (.func 63) [t_ 44,t_ 48]),q_ 50 43 cd (.ox (t_ 49)),q_ 51 43 cd (.bin .eql [1] (t_ 50) (i_ 1)),o_ 52 (.pick (t_ 43) (t_ 51) (b_ b9))])) (I_ 52 (G_ [m_ 53 3,m_ 2 53] .ret) .skip)))) (O_ [m_ 11 3,C_ 12 .sub 11 1,m_ 3 12])))
def uk:aG:=(G_ [x_ 1 0,k_ 2 0] (J_ (G_ (U_ 5 3 1 [C_ 8 .sub 7 1,m_ 3 8]) (Q_ 0 qL)) (G_ [k_ 2 (bL 0)] .ret)))
def Db:=gp 40 [.tmp 2] uk
def uh:aG:=(G_ [x_ 1 0,K_ 2 DV] (J_ (V_ [L_ 5 4 1,L_ 6 4 1,K_ 3 DV,(F_ 7 39 [t_ 6],[1]),(F_ 8 38 [t_ 5,t_ 7],[3]),s_ 4 3 8]) (G_ [L_ 9 4 3,F_ 10 95 [t_ 9],m_ 4 10] (G_ [L_ 11 4 3,m_ 12 4,F_ 13 96 [t_ 11,t_ 12],s_ 4 3 13] (G_ [m_ 14 4,z_ 15 14,f_ 16 2 3,s_ 1 16 15] (G_ [L_ 17 4 3,s_ 4 2 17] .ret))))))
def C8:=gp 41 [.cell 2 (Z 4)] uh
def jZ:aG:=(y_ 115 12 119 6 7 120 (U_ 116 3 6 []) (G_ [m_ 122 12,m_ 123 5,X_ 124 .neq 122 123] (I_ 124 (O_ [m_ 125 11,m_ 126 12,v_ 127 Ba 1 126,A_ 128 Ba 8 125 127,m_ 11 128]) .skip)))
def j1:aG:=(y_ 54 10 57 4 5 58 [m_ 55 9,z_ 56 55] (G_ (T_ 60 9 10 3 (W_ 63 0 62 [m_ 65 5,X_ 66 .eql 64 65])) (I_ 66 (O_ [m_ 67 9,m_ 68 10,m_ 69 1,a_ 70 3 67 68,f_ 71 0 70,s_ 1 71 69]) .skip)))
def j2:aG:=(y_ 31 8 39 2 3 40 (R_ 32 3 6 7 6 (U_ 36 0 35 [])) (J_ (V_ (L_ 42 4 2::m_ 43 7::rS 44 3 2 7 6 (rS 48 0 47 8 2 [L_ 52 2 51,F_ 53 91 [t_ 42,t_ 43,t_ 52],m_ 9 53]))) (J_ (G_ [k_ 10 0] (Q_ 4 j1)) (V_ (rS 72 3 6 7 6 (fJ 76 0 75 (m_ 78 8::m_ 79 9::fJ 80 3 2 [z_ 82 81,(F_ 83 93 [t_ 79,t_ 82],[72,76]),a_ 84 2 77 78,f_ 85 1 84,s_ 1 85 83])))))))
def j3:aG:=(y_ 24 7 28 0 1 29 (U_ 25 3 6 []) (G_ [k_ 8 0] (Q_ 2 j2)))
def ss:aG:=(G_ [x_ 2 0,K_ 4 DV] (G_ (R_ 13 3 2 1 6 (f_ 17 2 16::W_ 18 3 17 [o_ 20 (.ee K 1 (t_ 19) (i_ 0)),l_ 21 20,m_ 5 21])) (G_ [L_ 22 4 2,F_ 23 37 [t_ 22],K_ 6 DV,s_ 4 6 23] (J_ (G_ [k_ 7 0] (Q_ 0 j3)) (J_ (V_ (fJ 86 3 6 (m_ 88 1::rS 89 3 6 1 6 (fJ 93 1 92 (rS 95 3 6 5 6 (fJ 99 1 98 [(A_ 101 I1 80 94 100,[86]),a_ 102 6 87 88,f_ 103 1 102,s_ 1 103 101])))))) (J_ (V_ (fJ 104 3 6 (m_ 106 1::rS 107 3 6 5 6 [f_ 111 2 110,L_ 112 4 111,a_ 113 6 105 106,f_ 114 2 113,s_ 4 114 112]))) (G_ [Z_ 11] (J_ (G_ [k_ 12 0] (Q_ 6 jZ)) (G_ (W_ 129 3 6 [m_ 131 5,o_ 132 (.build Tt [(0,(1,(i_ 1)))]),a_ 133 6 130 131,f_ 134 2 133,s_ 4 134 132]) (G_ [L_ 135 4 6,m_ 136 11,F_ 137 38 [t_ 135,t_ 136],s_ 4 4 137] .ret))))))))))
def BI:=gp 42 [.cell 4 (Z 4)] ss
def vx:aG:=(G_ [x_ 1 0,Z_ 2] (G_ [Z_ 3] (J_ (P_ 0 (G_ (W_ 5 0 1 [Y_ 7 .eql 6 21,m_ 4 7]) (I_ 4 .skip (G_ (W_ 9 0 1 [Y_ 11 .eql 10 20,m_ 8 11]) (I_ 8 (O_ (m_ 12 3::W_ 13 7 1 [A_ 15 va 16 12 14,m_ 3 15])) (G_ (W_ 17 0 1 (C_ 19 .geq 18 2::m_ 20 19::S_ 21 20 cd [.cD 0 (t_ 1),.load K (t_ 21),.bin .leq [] (t_ 22) (i_ 15)] (o_ 24 (.pick (t_ 20) (t_ 23) (b_ b9))::m_ 25 24::S_ 26 25 b9 [.cD 0 (t_ 1),.load K (t_ 26),.bin .eql [1] (t_ 27) (i_ 19)] [o_ 29 (.pick (t_ 25) (b_ cd) (t_ 28)),m_ 16 29]))) (I_ 16 (O_ [m_ 30 3,f_ 31 2 1,L_ 32 2 31,f_ 33 4 1,L_ 34 2 33,o_ 35 (.fC 2 [(dd b9),(dC ef 0),(dd b9),(dC ef 0)] [(0,(2,(t_ 32))),(2,(2,(t_ 34)))]),A_ 36 va 16 30 35,m_ 3 36]) (G_ (W_ 38 0 1 (C_ 40 .geq 39 1::m_ 41 40::S_ 42 41 cd [.cD 0 (t_ 1),.load K (t_ 42),.bin .leq [] (t_ 43) (i_ 22)] [o_ 45 (.pick (t_ 41) (t_ 44) (b_ b9)),m_ 37 45])) (I_ 37 (O_ [m_ 46 3,f_ 47 2 1,L_ 48 2 47,v_ 49 va 2 48,A_ 50 va 16 46 49,m_ 3 50]) .skip))))))))) (G_ [m_ 51 3,m_ 2 51] .ret))))
def Ek:=gp 44 [.tmp 2] vx
def uf:aG:=(G_ [x_ 1 0,M_ 2 b9] (G_ (U_ 3 3 1 (C_ 6 .gtr 5 40::m_ 7 6::S_ 8 7 b9 [.load (Z 4) (t_ 1),.call (.func 97) [t_ 8],.bin .gtr [] (t_ 9) (i_ 300)] (o_ 11 (.pick (t_ 7) (b_ cd) (t_ 10))::m_ 12 11::S_ 13 12 b9 [.cD 2 (t_ 1),.load K (t_ 13),.bin .gtr [] (t_ 14) (i_ 100)] [o_ 16 (.pick (t_ 12) (b_ cd) (t_ 15)),m_ 2 16]))) .ret))
def C7:=gp 45 [.tmp 2] uf
def uu:aG:=(G_ [K_ 4 Na] (G_ [m_ 5 0,m_ 6 1,o_ 7 (.build Na [(0,(1,(t_ 5))),(1,(1,(t_ 6)))]),s_ 2 4 7] .ret))
def Df:=gp 46 [.cell 4 (Z 2)] uu
def qM:aG:=(y_ 21 5 25 0 1 26 (U_ 22 1 2 []) (J_ (V_ (rS 28 1 2 5 4 (L_ 32 4 31::rS 33 1 3 5 4 [L_ 37 4 36,F_ 38 99 [t_ 32,t_ 37],o_ 39 (.un .not (t_ 38))]))) (I_ 39 (G_ [M_ 4 b9] .ret) .skip)))
def uv:aG:=(G_ [x_ 2 0,x_ 3 1,M_ 4 b9] (J_ (G_ (W_ 6 0 2 (W_ 8 0 3 (F_ 10 98 [t_ 7,t_ 9]::o_ 11 (.un .not (t_ 10))::m_ 12 11::S_ 13 12 b9 [.cD 1 (t_ 2),.load K (t_ 13),.ox (t_ 14),.cD 1 (t_ 3),.load K (t_ 16),.ox (t_ 17),.bin .neq [1] (t_ 15) (t_ 18)] [o_ 20 (.pick (t_ 12) (b_ cd) (t_ 19))]))) (I_ 20 (G_ [M_ 4 b9] .ret) .skip)) (J_ (G_ [k_ 5 0] (Q_ 0 qM)) (G_ [M_ 4 cd] .ret))))
def Dg:=gp 47 [.tmp 4] uv
set_option maxRecDepth 100000
def qH:aG:=(y_ 7 6 11 0 1 12 (U_ 8 3 2 []) (G_ (R_ 14 3 2 6 6 (f_ 18 2 17::W_ 19 3 18 [m_ 21 1,F_ 22 104 [t_ 20,t_ 21]])) (I_ 22 (O_ [m_ 23 5,m_ 24 6,v_ 25 Ba 1 24,A_ 26 Ba 8 23 25,m_ 5 26]) .skip)))
def uc:aG:=(.seq (.ops [⟨(Z 2),K,(.box (.tmp 0))⟩,⟨(Z 4),K,(.mv (.const (c6 K 0 0)))⟩]) (.seq (.ops [⟨(Z 5),K,(.mv (.const (c6 K 0 0)))⟩]) (.seq (.seq (.ops [⟨(Z 6),K,(.mv (.const (dC ef 0)))⟩]) (.block 0 (.loop qH))) (.seq (.ops [⟨(Z 27),K,(.mv (.tmp 5))⟩,⟨(Z 4),K,(.mv (.tmp 27))⟩]) .ret))))
def C4:=gp 63 [.tmp 4] uc
def mM:aG:=(G_ [Z_ 2] (J_ (G_ [m_ 3 0,o_ 4 (.bin .eql [3] (t_ 3) (.const (c6 K 0 0)))] (I_ 4 (G_ [Z_ 2] .ret) .skip)) (G_ [o_ 5 (.fC 0 [] []),m_ 6 0,A_ 7 YT 48 5 6,m_ 2 7] .ret)))
def mO:=gp 66 [.tmp 2] mM
def zL:aG:=(G_ [Z_ 2] (J_ (G_ [m_ 3 0,o_ 4 (.bin .eql [3] (t_ 3) (.const (c6 K 0 0)))] (I_ 4 (G_ [Z_ 2] .ret) .skip)) (G_ [o_ 5 (.fC 0 [] []),m_ 6 0,A_ 7 Ba 8 5 6,m_ 2 7] .ret)))
def pS:=gp 67 [.tmp 2] zL
def pJ:aG:=(G_ [Z_ 2] (J_ (G_ [m_ 3 0,o_ 4 (.bin .eql [3] (t_ 3) (.const (c6 K 0 0)))] (I_ 4 (G_ [Z_ 2] .ret) .skip)) (G_ [o_ 5 (.fC 0 [] []),m_ 6 0,A_ 7 DV 56 5 6,m_ 2 7] .ret)))
def pQ:=gp 68 [.tmp 2] pJ
def wD:aG:=(N_ 50 49 48 4 5 62 (G_ [m_ 51 49,a_ 52 8 47 49,L_ 53 8 52,K_ 8 I1,m_ 7 51,s_ 8 8 53] (V_ (fJ 54 1 4 (m_ 56 7::fJ 57 7 8 [(F_ 59 128 [t_ 58],[54]),a_ 60 8 55 56,f_ 61 7 60,s_ 1 61 59])))))
def wE:aG:=(N_ 29 28 27 2 3 41 (G_ [m_ 30 28,a_ 31 2 26 28,L_ 32 2 31,K_ 6 Wu,m_ 5 30,s_ 2 6 32] (V_ (fJ 33 0 4 (m_ 35 5::fJ 36 1 6 [(F_ 38 128 [t_ 37],[33]),a_ 39 2 34 35,f_ 40 1 39,s_ 1 40 38])))))
def wF:aG:=(N_ 17 16 15 0 1 74 (G_ [m_ 18 16,a_ 19 6 14 16,L_ 20 6 19,K_ 4 Fg,m_ 3 18,s_ 6 4 20] (G_ (W_ 21 0 4 [F_ 23 127 [t_ 22],f_ 24 0 4,s_ 1 24 23]) (J_ (G_ (U_ 25 0 4 [k_ 28 0]) (Q_ 2 wE)) (G_ (W_ 42 1 4 [F_ 44 129 [t_ 43],f_ 45 1 4,s_ 1 45 44]) (J_ (G_ (U_ 46 1 4 [k_ 49 0]) (Q_ 4 wD)) (G_ (f_ 63 2 4::W_ 64 3 63 [F_ 66 67 [t_ 65],f_ 67 2 4,f_ 68 3 67,s_ 1 68 66]) (O_ (W_ 69 3 1 [m_ 71 3,L_ 72 6 4,a_ 73 6 70 71,s_ 6 73 72])))))))))
def Fz:aG:=(G_ [x_ 1 0,K_ 2 DV] (G_ (W_ 9 3 1 [F_ 11 126 [t_ 10],f_ 12 3 1,s_ 1 12 11]) (J_ (G_ (U_ 13 3 1 [k_ 16 0]) (Q_ 0 wF)) (G_ [L_ 75 4 1,s_ 4 2 75] .ret))))
def Qh:=gp 69 [.cell 2 (Z 4)] Fz
def AF:aG:=(N_ 10 9 8 0 1 22 (G_ [a_ 11 6 7 9,L_ 12 6 11,K_ 5 Fg,s_ 6 5 12] (O_ (m_ 13 3::U_ 14 0 5 (U_ 17 1 5 [B_ 20 .add 16 19,B_ 21 .add 13 20,m_ 3 21])))))
def DE:aG:=(G_ [x_ 1 0,M_ 2 b9] (G_ [k_ 3 0] (J_ (G_ (U_ 6 3 1 [k_ 9 0]) (Q_ 0 AF)) (G_ (U_ 23 3 1 (C_ 26 .gtr 25 40::m_ 27 26::S_ 28 27 b9 [.mv (t_ 3),.bin .gtr [] (t_ 28) (i_ 300)] (o_ 30 (.pick (t_ 27) (b_ cd) (t_ 29))::m_ 31 30::S_ 32 31 b9 [.cD 2 (t_ 1),.load K (t_ 32),.bin .gtr [] (t_ 33) (i_ 100)] [o_ 35 (.pick (t_ 31) (b_ cd) (t_ 34)),m_ 2 35]))) .ret))))
def NA:=gp 70 [.tmp 2] DE
def Iq:aG:=(G_ [x_ 1 0,K_ 2 DV] (J_ (V_ [L_ 3 4 1,L_ 4 4 1,(F_ 5 138 [t_ 4],[1]),F_ 6 137 [t_ 3,t_ 5],F_ 7 136 [t_ 6],F_ 8 135 [t_ 7],s_ 4 2 8]) .ret))
def Td:=gp 77 [.cell 2 (Z 4)] Iq
def DO:aG:=(N_ 16 15 14 0 1 52 (G_ [m_ 17 15,m_ 3 17] (G_ [m_ 18 0,m_ 19 3,o_ 20 (.index K (t_ 18) (t_ 19)),m_ 4 20] (G_ (m_ 21 4::o_ 22 (.bin .geq [] (t_ 21) (.const (.int .u8 97)))::m_ 23 22::S_ 24 23 cd [.mv (t_ 4),.bin .leq [] (t_ 24) (.const (.int .u8 122))] (o_ 26 (.pick (t_ 23) (t_ 25) (b_ b9))::m_ 27 26::S_ 28 27 b9 [.mv (t_ 4),.bin .geq [] (t_ 28) (.const (.int .u8 65)),.mv (t_ 29)] (S_ 31 30 cd [.mv (t_ 4),.bin .leq [] (t_ 31) (.const (.int .u8 90))] (q_ 33 27 b9 (.pick (t_ 30) (t_ 32) (b_ b9))::o_ 34 (.pick (t_ 27) (b_ cd) (t_ 33))::m_ 35 34::S_ 36 35 b9 [.mv (t_ 4),.bin .eql [1] (t_ 36) (.const (.int .u8 95))] (o_ 38 (.pick (t_ 35) (b_ cd) (t_ 37))::m_ 39 38::S_ 40 39 b9 [.mv (t_ 3),.bin .gtr [] (t_ 40) (i_ 0),.mv (t_ 41)] (S_ 43 42 cd [.mv (t_ 4),.bin .geq [] (t_ 43) (.const (.int .u8 48))] (S_ 45 39 b9 [.pick (t_ 42) (t_ 44) (b_ b9),.mv (t_ 45)] (S_ 47 46 cd [.mv (t_ 4),.bin .leq [] (t_ 47) (.const (.int .u8 57))] [q_ 49 39 b9 (.pick (t_ 46) (t_ 48) (b_ b9)),o_ 50 (.pick (t_ 39) (b_ cd) (t_ 49)),o_ 51 (.un .not (t_ 50))])))))))) (I_ 51 (G_ [M_ 2 b9] .ret) .skip)))))
def Ik:aG:=(G_ [M_ 2 b9] (J_ (G_ (m_ 5 0::o_ 6 (.MM (t_ 5))::C_ 7 .lss 6 1::m_ 8 7::S_ 9 8 b9 [.mv (t_ 0),.MM (t_ 9),.bin .gtr [] (t_ 10) (i_ 12)] [o_ 12 (.pick (t_ 8) (b_ cd) (t_ 11))]) (I_ 12 (G_ [M_ 2 b9] .ret) .skip)) (J_ (G_ [m_ 13 0,o_ 14 (.MM (t_ 13)),k_ 15 0] (Q_ 0 DO)) (G_ [M_ 2 cd] .ret))))
def S7:=gp 78 [.tmp 2] Ik
def jh:aG:=(G_ [M_ 4 b9] (G_ [m_ 5 0,m_ 6 1,F_ 7 139 [t_ 5,t_ 6],C_ 8 .geq 7 0,m_ 4 8] .ret))
def qp:=gp 79 [.tmp 4] jh
def DC:aG:=(G_ [M_ 6 b9] (G_ (m_ 7 0::m_ 8 1::B_ 9 .geq 7 8::m_ 10 9::S_ 11 10 cd [.mv (t_ 0),.mv (t_ 2),.bin .leq [] (t_ 11) (t_ 12)] [o_ 14 (.pick (t_ 10) (t_ 13) (b_ b9)),m_ 6 14]) .ret))
def Ny:=gp 80 [.tmp 6] DC
def qF:aG:=(N_ 13 12 11 0 1 25 (G_ [a_ 14 6 10 12,L_ 15 6 14,K_ 7 Fg,s_ 6 7 15] (O_ (m_ 16 5::U_ 17 0 7 (U_ 20 1 7 [B_ 23 .add 19 22,B_ 24 .add 16 23,m_ 5 24])))))
def tW:aG:=(G_ [x_ 2 0,k_ 4 0] (G_ [k_ 5 0] (J_ (G_ (f_ 8 2 2::U_ 9 3 8 [k_ 12 0]) (Q_ 0 qF)) (J_ (P_ 2 (G_ (f_ 27 2 2::W_ 28 0 27 [F_ 30 78 [t_ 29],o_ 31 (.un .not (t_ 30)),m_ 26 31]) (I_ 26 (G_ [k_ 4 12] .ret) (G_ (m_ 33 1::f_ 34 2 2::W_ 35 0 34 [F_ 37 79 [t_ 33,t_ 36],m_ 32 37]) (I_ 32 (G_ [k_ 4 7] .ret) (G_ (f_ 39 2 2::W_ 40 1 39 (F_ 42 80 [t_ 41,(i_ 0),(i_ 6)]::o_ 43 (.un .not (t_ 42))::m_ 44 43::S_ 45 44 b9 [.cD 2 (t_ 2),.cD 2 (t_ 45),.load K (t_ 46),.cD 2 (t_ 2),.cD 1 (t_ 48),.load K (t_ 49),.call (.func 80) [t_ 47,t_ 50,(i_ 100)],.un .not (t_ 51)] [o_ 53 (.pick (t_ 44) (b_ cd) (t_ 52)),m_ 38 53])) (I_ 38 (G_ [k_ 4 3] .ret) (G_ (f_ 55 2 2::U_ 56 3 55 (F_ 59 80 [t_ 58,(i_ 1),(i_ 40)]::o_ 60 (.un .not (t_ 59))::m_ 61 60::S_ 62 61 b9 [.mv (t_ 5),.bin .gtr [] (t_ 62) (i_ 300)] [o_ 64 (.pick (t_ 61) (b_ cd) (t_ 63)),m_ 54 64])) (I_ 54 (G_ [k_ 4 2] .ret) .skip))))))))) (G_ [k_ 4 0] .ret)))))
def CW:=gp 81 [.tmp 4] tW
def km:aG:=(N_ 62 61 60 6 7 71 (G_ [a_ 63 8 59 61,L_ 64 8 63,K_ 12 I1,s_ 8 12 64] (G_ [L_ 65 7 1,L_ 66 8 12,F_ 67 143 [t_ 65,t_ 66],m_ 13 67] (G_ [m_ 68 13,Y_ 69 .neq 68 0] (I_ 69 (G_ [m_ 70 13,m_ 2 70] .ret) .skip)))))
def ko:aG:=(N_ 47 46 45 4 5 57 (G_ [a_ 48 2 44 46,L_ 49 2 48,K_ 9 Wu,s_ 2 9 49] (G_ [L_ 50 7 1,m_ 51 6,L_ 52 2 9,F_ 53 142 [t_ 50,t_ 51,t_ 52],m_ 10 53] (G_ [m_ 54 10,Y_ 55 .neq 54 0] (I_ 55 (G_ [m_ 56 10,m_ 2 56] .ret) .skip)))))
def kq:aG:=(N_ 39 38 37 2 3 72 (G_ [m_ 40 38,a_ 41 6 36 38,L_ 42 6 41,K_ 7 Fg,m_ 6 40,s_ 6 7 42] (J_ (G_ (U_ 43 0 7 [k_ 46 0]) (Q_ 4 ko)) (G_ (U_ 58 1 7 [k_ 61 0]) (Q_ 6 km)))))
def kr:aG:=(N_ 19 18 17 0 1 29 (G_ [a_ 20 6 16 18,L_ 21 6 20,K_ 4 Fg,s_ 6 4 21] (G_ [L_ 22 7 1,f_ 23 2 4,L_ 24 4 23,F_ 25 140 [t_ 22,t_ 24],m_ 5 25] (G_ [m_ 26 5,Y_ 27 .neq 26 0] (I_ 27 (G_ [m_ 28 5,m_ 2 28] .ret) .skip)))))
def tV:aG:=(G_ [x_ 1 0,k_ 2 0] (J_ (G_ (f_ 14 2 1::U_ 15 3 14 [k_ 18 0]) (Q_ 0 kr)) (G_ [f_ 30 2 1,L_ 31 4 30,F_ 32 141 [t_ 31],f_ 33 6 1,s_ 1 33 32] (J_ (G_ (f_ 34 2 1::U_ 35 3 34 [k_ 38 0]) (Q_ 2 kq)) (G_ [k_ 2 0] .ret)))))
def CV:=gp 82 [.tmp 2] tV
def gH:aG:=(N_ 9 8 7 0 1 18 (G_ [m_ 10 8,m_ 5 10] (G_ (m_ 11 1::T_ 12 0 5 4 [L_ 15 4 14,o_ 16 (.call (t_ 11) [t_ 15])]) (I_ 16 (G_ [m_ 17 5,m_ 4 17] .ret) .skip))))
def gO:aG:=(.seq (.ops [⟨(Z 4),K,(.mv (.const (dC ef 0)))⟩]) (.seq (.seq (.ops [⟨(Z 6),K,(.mv (.tmp 0))⟩,⟨(Z 7),K,(.ox (.tmp 6))⟩,⟨(Z 8),K,(.mv (.const (dC ef 0)))⟩]) (.block 0 (.loop gH))) (.seq (.ops [⟨(Z 4),K,(.mv (.const (dC ef (bL 0))))⟩]) .ret)))
def mP:=gp 83 [.tmp 4] gO
def Bs:aG:=(G_ [x_ 1 0,M_ 2 b9] (G_ (W_ 3 0 1 [⟨(Z 5),K,(.bin .eql [2] (t_ 4) (.const (eT ⟨⟨[109,97,105,110]⟩⟩)))⟩,m_ 2 5]) .ret))
def Kk:=gp 84 [.tmp 2] Bs
def wz:aG:=(N_ 56 55 54 6 7 74 (G_ [a_ 57 1 53 55,l_ 58 57,m_ 14 58] (P_ 8 (G_ (T_ 65 5 14 1 [l_ 68 67,C_ 69 .lss 68 0,m_ 64 69]) (I_ 64 .skip (G_ [m_ 71 12,C_ 72 .lss 71 0,m_ 70 72] (I_ 70 (O_ [m_ 73 14,m_ 12 73]) (O_ [m_ 59 5,m_ 60 4,m_ 61 12,m_ 62 14,F_ 63 145 [t_ 59,t_ 60,t_ 61,t_ 62],m_ 12 63]))))))))
def kX:aG:=(N_ 47 46 45 4 5 85 (G_ [a_ 48 1 44 46,l_ 49 48,m_ 11 49] (G_ [k_ 12 (bL 0)] (J_ (G_ (T_ 50 8 11 1 [l_ 53 52,z_ 54 53,k_ 55 0]) (Q_ 6 wz)) (G_ (T_ 75 5 11 1 [l_ 78 77,m_ 79 12,X_ 80 .neq 78 79]) (I_ 80 (O_ [m_ 81 5,m_ 82 11,m_ 83 12,a_ 84 1 81 82,s_ 1 84 83,M_ 9 cd]) .skip))))))
def wB:aG:=(J_ (G_ [m_ 42 9] (H_ 42 2)) (P_ 3 (G_ [M_ 9 b9] (G_ [m_ 43 3,o_ 44 (.slice 1 (t_ 43) (Z (i_ 1)) K K),z_ 45 44,k_ 46 0] (Q_ 4 kX)))))
def wC:aG:=(N_ 29 28 27 0 1 37 (G_ [m_ 30 28,a_ 31 1 26 28,l_ 32 31,m_ 6 30,m_ 7 32] (O_ [m_ 33 4,m_ 34 7,m_ 35 6,a_ 36 1 33 34,s_ 1 36 35])))
def Fy:aG:=(G_ [x_ 1 0,Z_ 2] (G_ [L_ 15 4 1,F_ 16 138 [t_ 15],m_ 3 16] (G_ (U_ 17 3 1 [o_ 20 (.iO Ba 8 (t_ 19) (t_ 19)),m_ 4 20]) (G_ (o_ 21 (.fC 1 Ba [(0,(1,(.const (dC ef (bL 0)))))])::U_ 22 3 1 [F_ 25 144 [t_ 21,t_ 24],m_ 5 25]) (J_ (G_ [m_ 26 3,z_ 27 26,k_ 28 0] (Q_ 0 wC)) (G_ [m_ 38 5,o_ 39 (.ee K 1 (t_ 38) (i_ 0)),u_ (.store 1 (t_ 39) (i_ 0))] (G_ [L_ 40 4 1,F_ 41 101 [t_ 40],m_ 8 41] (J_ (G_ [M_ 9 cd] (Q_ 2 wB)) (G_ [m_ 86 5,o_ 87 (.ee K 1 (t_ 86) (i_ 0)),u_ (.store 1 (t_ 87) (.const (dC ef (bL 0))))] (G_ [m_ 88 5,m_ 2 88] .ret))))))))))
def Qg:=gp 85 [.tmp 2] Fy
def kc:aG:=(J_ (G_ [m_ 34 8,m_ 35 7,z_ 36 35,B_ 37 .lss 34 36] (H_ 37 0)) (P_ 1 (V_ [m_ 38 8,m_ 39 7,m_ 40 8,o_ 41 (.slice 2 (t_ 39) (Z (t_ 40)) K K),m_ 42 7,m_ 43 8,o_ 44 (.slice 2 (t_ 42) K (Z (t_ 43)) K),o_ 45 (.copy 2 (t_ 41) (t_ 44)),B_ 46 .add 38 45,m_ 8 46])))
def kE:aG:=(G_ [Z_ 4] (J_ (G_ [m_ 9 1,C_ 10 .lss 9 0] (I_ 10 (O_ [⟨(Z 11),K,.bad⟩,⟨K,K,.bad⟩]) .skip)) (G_ [m_ 13 0,z_ 14 13,o_ 15 (.conv .u64 (t_ 14)),m_ 16 1,o_ 17 (.conv .u64 (t_ 16)),F_ 18 146 [t_ 15,t_ 17],m_ 12 18,E_ 19 0 12,E_ 20 1 12,m_ 5 19,m_ 6 20] (J_ (G_ (m_ 21 5::o_ 22 (.bin .gtr [] (t_ 21) (.const (.int .u64 0)))::m_ 23 22::S_ 24 23 b9 [.mv (t_ 6),.bin .gtr [] (t_ 24) (.const (.int .u64 9223372036854775807))] [o_ 26 (.pick (t_ 23) (b_ cd) (t_ 25))]) (I_ 26 (O_ [⟨(Z 27),K,.bad⟩,⟨K,K,.bad⟩]) .skip)) (G_ [m_ 28 6,o_ 29 (.conv ef (t_ 28)),o_ 30 (.iO Na 16 (t_ 29) (t_ 29)),m_ 7 30] (G_ [m_ 31 7,m_ 32 0,o_ 33 (.copy 2 (t_ 31) (t_ 32)),m_ 8 33] (J_ (Q_ 0 kc) (G_ [m_ 47 7,m_ 4 47] .ret))))))))
def fY:=gp 86 [.tmp 4] kE
def FB:aG:=(G_ [x_ 1 0,Z_ 2] (G_ [K_ 3 ZD] (G_ (U_ 6 3 1 [o_ 9 (.iO [(dd b9)] 1 (t_ 8) (t_ 8)),K_ 4 ZD,s_ 1 4 9]) (G_ [o_ 5 (.alloc [.nilFunc])] (G_ [o_ 10 (.uP 147 [t_ 4,t_ 1,t_ 5,t_ 3]),s_ 1 5 10] (G_ [l_ 11 5,o_ 12 (.call (t_ 11) [(i_ 0)])] (G_ [l_ 13 3,m_ 2 13] .ret)))))))
def Qj:=gp 87 [.tmp 2] FB
def jV:aG:=(N_ 57 56 55 6 7 75 (G_ [m_ 58 56,a_ 59 8 54 56,L_ 60 8 59,K_ 10 I1,m_ 9 58,s_ 8 10 60] (O_ (W_ 61 1 10 (C_ 63 .lss 62 0::m_ 64 63::S_ 65 64 b9 [.mv (t_ 0),.cD 1 (t_ 10),.load K (t_ 66),.mv (t_ 5),.mv (t_ 9),.call (.func 149) [t_ 65,t_ 67,t_ 68,t_ 69]] [o_ 71 (.pick (t_ 64) (b_ cd) (t_ 70)),m_ 72 71,q_ 73 72 cd (.mv (t_ 3)),o_ 74 (.pick (t_ 72) (t_ 73) (b_ b9)),m_ 3 74])))))
def jW:aG:=(N_ 41 40 39 4 5 52 (G_ [a_ 42 2 38 40,L_ 43 2 42,K_ 8 Wu,s_ 2 8 43] (O_ (m_ 44 0::W_ 45 0 8 [m_ 47 5,F_ 48 149 [t_ 44,t_ 46,t_ 47,(.const (dC ef (bL 0)))],m_ 49 48,q_ 50 49 cd (.mv (t_ 3)),o_ 51 (.pick (t_ 49) (t_ 50) (b_ b9)),m_ 3 51]))))
def qa:aG:=(N_ 33 32 31 2 3 76 (G_ [m_ 34 32,a_ 35 6 30 32,L_ 36 6 35,K_ 6 Fg,m_ 5 34,s_ 6 6 36] (J_ (G_ (U_ 37 0 6 [k_ 40 0]) (Q_ 4 jW)) (G_ (U_ 53 1 6 [k_ 56 0]) (Q_ 6 jV)))))
def jX:aG:=(N_ 17 16 15 0 1 25 (G_ [m_ 18 16,m_ 4 18] (O_ [m_ 19 0,m_ 20 4,F_ 21 149 [t_ 19,t_ 20,(i_ 0),(.const (dC ef (bL 0)))],m_ 22 21,q_ 23 22 cd (.mv (t_ 3)),o_ 24 (.pick (t_ 22) (t_ 23) (b_ b9)),m_ 3 24])))
def sk:aG:=(G_ [M_ 2 b9] (G_ [M_ 3 cd] (J_ (G_ (m_ 11 0::n_ 12 11::f_ 13 0 12::W_ 14 1 13 [k_ 16 0]) (Q_ 0 jX)) (J_ (G_ (m_ 26 0::n_ 27 26::f_ 28 0 27::U_ 29 3 28 [k_ 32 0]) (Q_ 2 qa)) (G_ [m_ 77 3,m_ 2 77] .ret)))))
def BE:=gp 88 [.tmp 2] sk
def kY:aG:=(N_ 73 72 71 6 7 86 (G_ [m_ 74 72,a_ 75 8 70 72,L_ 76 8 75,K_ 11 Ba,K_ 12 I1,s_ 1 11 74,s_ 8 12 76] (G_ [L_ 77 8 12,F_ 78 132 [t_ 77]] (P_ 8 (.RO (t_ 78) [79] (O_ [K_ 13 va,s_ 2 13 79]) (P_ 9 (G_ [l_ 80 1,L_ 81 2 13,l_ 82 4,l_ 83 11,F_ 84 150 [t_ 80,t_ 81,t_ 82,t_ 83],o_ 85 (.un .not (t_ 84))] (I_ 85 (G_ [u_ (.store 1 (t_ 2) (b_ b9))] .ret) .skip))))))))
def kZ:aG:=(N_ 41 40 39 4 5 67 (G_ [m_ 42 40,a_ 43 2 38 40,L_ 44 2 43,K_ 9 va,m_ 8 42,s_ 2 9 44] (G_ [m_ 45 3,l_ 46 4,a_ 47 1 45 46,l_ 48 47,m_ 49 8,a_ 50 1 48 49,l_ 51 50,m_ 10 51] (J_ (V_ (l_ 52 1::L_ 53 2 9::m_ 54 10::l_ 55 1::n_ 56 55::f_ 57 0 56::rS 58 3 57 10 6 (fJ 62 1 61 [z_ 64 63,F_ 65 150 [t_ 52,t_ 53,t_ 54,t_ 64],o_ 66 (.un .not (t_ 65))]))) (I_ 66 (G_ [u_ (.store 1 (t_ 2) (b_ b9))] .ret) .skip)))))
def lf:aG:=(N_ 34 33 32 2 3 68 (G_ [a_ 35 2 31 33,L_ 36 2 35,K_ 7 Wu,s_ 2 7 36] (G_ (U_ 37 1 7 [k_ 40 0]) (Q_ 4 kZ))))
def te:aG:=(N_ 26 25 24 0 1 97 (G_ [m_ 27 25,a_ 28 6 23 25,L_ 29 6 28,K_ 4 Ba,K_ 5 Fg,s_ 1 4 27,s_ 6 5 29] (J_ (G_ (U_ 30 0 5 [k_ 33 0]) (Q_ 2 lf)) (J_ (G_ (U_ 69 1 5 [k_ 72 0]) (Q_ 6 kY)) (G_ (l_ 87 1::f_ 88 2 5::f_ 89 1 88::L_ 90 2 89::l_ 91 4::U_ 92 1 5 [F_ 95 150 [t_ 87,t_ 90,t_ 91,t_ 94],o_ 96 (.un .not (t_ 95))]) (I_ 96 (G_ [u_ (.store 1 (t_ 2) (b_ b9))] .ret) .skip))))))
def vo:aG:=(G_ [x_ 1 0,o_ 2 (.alloc [(dd b9)])] (G_ [l_ 14 1,n_ 15 14,f_ 16 0 15,L_ 17 4 16,F_ 18 101 [t_ 17],m_ 3 18] (J_ (G_ (l_ 19 1::n_ 20 19::f_ 21 0 20::U_ 22 3 21 [k_ 25 0]) (Q_ 0 te)) (G_ [u_ (.store 1 (t_ 2) (b_ cd))] .ret))))
def Ec:=gp 89 [.cell 2 K] vo
def kt:aG:=(y_ 47 5 51 2 3 52 (U_ 48 1 1 []) (G_ (R_ 54 1 1 5 8 [L_ 58 8 57,K_ 6 I1,s_ 8 6 58]) (G_ (o_ 59 (.fC 0 [] [])::W_ 60 7 6 [A_ 62 va 16 59 61,f_ 63 7 6,s_ 1 63 62]) (O_ (W_ 64 1 3 [L_ 66 8 6,v_ 67 I1 8 66,A_ 68 I1 80 65 67,f_ 69 1 3,s_ 1 69 68])))))
def ku:aG:=(y_ 20 4 24 0 1 25 (U_ 21 0 1 []) (V_ (fJ 27 0 3 (rS 29 0 1 4 2 (fJ 33 0 32 (o_ 35 (.fC 0 [] [])::rS 36 0 1 4 2 (fJ 40 1 39 [(A_ 42 va 16 35 41,[27,29,33]),o_ 43 (.build Wu [(0,(1,(t_ 34))),(1,(1,(t_ 42)))]),v_ 44 Wu 2 43,A_ 45 Wu 32 28 44,f_ 46 0 3,s_ 1 46 45])))))))
def ud:aG:=(G_ [x_ 1 0,K_ 2 Fg] (J_ (V_ (f_ 7 2 1::fJ 8 0 7 (f_ 10 2 1::f_ 11 1 10::L_ 12 2 11::o_ 13 (.fC 0 [] [])::f_ 14 2 1::fJ 15 3 14 [K_ 3 Fg,(A_ 17 Ba 8 13 16,[8,11,3]),o_ 18 (.build Tt [(0,(1,(t_ 9))),(1,(2,(t_ 12))),(3,(1,(t_ 17)))]),o_ 19 (.build Fg [(2,(4,(t_ 18)))]),s_ 6 3 19]))) (J_ (G_ [k_ 4 0] (Q_ 0 ku)) (J_ (G_ [k_ 5 0] (Q_ 2 kt)) (G_ [L_ 70 6 3,s_ 6 2 70] .ret)))))
def C5:=gp 90 [.cell 2 (Z 6)] ud
def qI:aG:=(y_ 13 9 16 0 1 17 [m_ 14 7,z_ 15 14] (V_ (m_ 19 8::Si 20 7 9 1 (l_ 23 22::rS 24 1 5 9 2 [L_ 28 2 27,o_ 29 (.build VN [(0,(1,(t_ 23))),(1,(2,(t_ 28)))]),v_ 30 VN 3 29,A_ 31 VN 24 19 30,m_ 8 31]))))
def ue:aG:=(G_ [x_ 3 0,x_ 5 2,Z_ 6] (G_ [L_ 10 4 3,m_ 11 1,F_ 12 63 [t_ 10,t_ 11],m_ 7 12] (G_ [Z_ 8] (J_ (G_ [k_ 9 0] (Q_ 0 qI)) (G_ [m_ 32 8,m_ 6 32] .ret)))))
def C6:=gp 91 [.tmp 6] ue
def qK:aG:=(y_ 6 5 9 0 1 10 [m_ 7 0,z_ 8 7] (G_ (T_ 12 0 5 1 [l_ 15 14,m_ 16 1,X_ 17 .eql 15 16]) (I_ 17 (G_ [m_ 18 5,m_ 4 18] .ret) .skip)))
def uj:aG:=(.seq (.ops [⟨(Z 4),K,(.mv (.const (dC ef 0)))⟩]) (.seq (.seq (.ops [⟨(Z 5),K,(.mv (.const (dC ef 0)))⟩]) (.block 0 (.loop qK))) (.seq (.ops [⟨(Z 4),K,(.mv (.const (dC ef (bL 0))))⟩]) .ret)))
def Da:=gp 92 [.tmp 4] uj
def nh:aG:=(y_ 13 7 16 2 3 17 [m_ 14 0,z_ 15 14] (G_ (T_ 19 0 7 3 (W_ 22 0 21 [m_ 24 6,X_ 25 .eql 23 24])) (I_ 25 (G_ (m_ 26 5::T_ 27 0 7 3 [f_ 30 1 29,L_ 31 2 30,v_ 32 va 2 31,A_ 33 va 16 26 32,m_ 5 33]) (.exit 2)) .skip)))
def uF:aG:=(y_ 8 6 10 0 1 11 [m_ 9 1] (G_ [k_ 7 0] (Q_ 2 nh)))
def xv:aG:=(.seq (.ops [⟨(Z 4),K,(.mv (.const (c6 K 0 0)))⟩]) (.seq (.ops [⟨(Z 5),K,(.mv (.const (c6 K 0 0)))⟩]) (.seq (.seq (.ops [⟨(Z 6),K,(.mv (.const (dC ef 0)))⟩]) (.block 0 (.loop uF))) (.seq (.ops [⟨(Z 34),K,(.mv (.tmp 5))⟩,⟨(Z 4),K,(.mv (.tmp 34))⟩]) .ret))))
def FN:=gp 93 [.tmp 4] xv
def tm:aG:=(J_ (G_ [m_ 28 11,C_ 29 .geq 28 0] (H_ 29 0)) (J_ (P_ 1 (G_ (m_ 32 2::T_ 33 10 11 1 [l_ 36 35,F_ 37 104 [t_ 32,t_ 36],o_ 38 (.un .not (t_ 37))]) (I_ 38 (V_ (L_ 40 4 4::Si 41 10 11 1 [l_ 44 43,m_ 45 2,m_ 46 3,F_ 47 94 [t_ 40,t_ 44,t_ 45,t_ 46],m_ 39 47,E_ 48 0 39,E_ 49 1 39,m_ 2 48,m_ 3 49])) .skip))) (O_ [m_ 30 11,C_ 31 .sub 30 1,m_ 11 31])))
def vy:aG:=(G_ [x_ 4 0,Z_ 8,Z_ 9] (G_ [o_ 12 (.fC 0 [] []),m_ 13 2,A_ 14 Ba 8 12 13,m_ 15 1,v_ 16 Ba 1 15,A_ 17 Ba 8 14 16,m_ 2 17] (G_ (R_ 18 3 4 1 6 (f_ 22 2 21::W_ 23 3 22 [m_ 10 24])) (J_ (G_ [m_ 25 10,z_ 26 25,C_ 27 .sub 26 1,m_ 11 27] (Q_ 0 tm)) (G_ [m_ 50 2,o_ 51 (.fC 0 [] []),m_ 52 3,A_ 53 Ba 8 51 52,m_ 54 1,v_ 55 Ba 1 54,A_ 56 Ba 8 53 55,m_ 8 50,m_ 9 56] .ret)))))
def Em:=gp 94 [(.tmp 8),(.tmp 9)] vy
def mV:aG:=(y_ 91 10 99 10 11 100 (R_ 92 3 1 9 6 (U_ 96 0 95 [])) (O_ (m_ 102 3::R_ 103 3 1 9 6 (R_ 107 0 106 10 2 (W_ 111 1 110 [F_ 113 152 [t_ 102,t_ 112],m_ 3 113])))))
def mW:aG:=(y_ 84 9 88 8 9 89 (U_ 85 3 1 []) (G_ [k_ 10 0] (Q_ 10 mV)))
def mX:aG:=(y_ 48 8 52 6 7 53 (U_ 49 1 6 []) (G_ (m_ 55 3::R_ 56 1 6 8 8 [L_ 60 8 59,F_ 61 44 [t_ 60],F_ 62 152 [t_ 55,t_ 61],m_ 3 62]) (G_ (R_ 63 1 6 8 8 (W_ 67 1 66 [C_ 69 .geq 68 0])) (I_ 69 (O_ (m_ 70 3::R_ 71 1 6 8 8 (W_ 75 1 74 [F_ 77 151 [t_ 70,t_ 76],m_ 3 77]))) .skip))))
def mY:aG:=(y_ 33 7 37 4 5 38 (U_ 34 0 6 []) (O_ (m_ 40 3::R_ 41 0 6 7 2 (W_ 45 0 44 [F_ 47 151 [t_ 40,t_ 46],m_ 3 47]))))
def mZ:aG:=(y_ 21 5 25 2 3 26 (U_ 22 3 1 []) (G_ (R_ 28 3 1 5 6 [L_ 32 6 31,K_ 6 Fg,s_ 6 6 32]) (J_ (G_ [k_ 7 0] (Q_ 4 mY)) (J_ (G_ [k_ 8 0] (Q_ 6 mX)) (O_ [m_ 78 3,f_ 79 2 6,f_ 80 1 79,L_ 81 2 80,v_ 82 va 2 81,F_ 83 152 [t_ 78,t_ 82],m_ 3 83])))))
def nf:aG:=(y_ 11 4 14 0 1 15 (W_ 12 1 1 []) (O_ [m_ 17 3,m_ 18 4,v_ 19 Ba 1 18,A_ 20 Ba 8 17 19,m_ 3 20]))
def xu:aG:=(.seq (.ops [⟨(Z 1),K,(.box (.tmp 0))⟩,⟨(Z 2),K,(.mv (.const (c6 K 0 0)))⟩]) (.seq (.ops [⟨(Z 3),K,(.mv (.const (c6 K 0 0)))⟩]) (.seq (.seq (.ops [⟨(Z 4),K,(.mv (.const (dC ef 0)))⟩]) (.block 0 (.loop nf))) (.seq (.seq (.ops [⟨(Z 5),K,(.mv (.const (dC ef 0)))⟩]) (.block 2 (.loop mZ))) (.seq (.seq (.ops [⟨(Z 9),K,(.mv (.const (dC ef 0)))⟩]) (.block 8 (.loop mW))) (.seq (.ops [⟨(Z 114),K,(.mv (.tmp 3))⟩,⟨(Z 2),K,(.mv (.tmp 114))⟩]) .ret))))))
def FM:=gp 95 [.tmp 2] xu
set_option maxRecDepth 100000
def jB:aG:=(y_ 109 11 117 8 9 118 (R_ 110 1 7 10 8 (U_ 114 7 113 [])) (V_ (rS 120 1 7 10 8 (fJ 124 7 123 (m_ 126 11::rS 127 1 7 10 8 (rS 131 7 130 11 2 [L_ 135 2 134,m_ 136 1,(F_ 137 153 [t_ 135,t_ 136],[120,124]),a_ 138 2 125 126,s_ 2 138 137]))))))
def jC:aG:=(y_ 76 10 80 6 7 81 (U_ 77 1 7 []) (J_ (V_ (fJ 83 1 7 (m_ 85 10::rS 86 1 7 10 8 [f_ 90 2 89,L_ 91 2 90,m_ 92 1,(F_ 93 153 [t_ 91,t_ 92],[83]),a_ 94 8 84 85,f_ 95 2 94,s_ 2 95 93]))) (J_ (V_ (fJ 96 1 7 (m_ 98 10::rS 99 1 7 10 8 [f_ 103 4 102,L_ 104 2 103,m_ 105 1,(F_ 106 153 [t_ 104,t_ 105],[96]),a_ 107 8 97 98,f_ 108 4 107,s_ 2 108 106]))) (J_ (G_ [k_ 11 0] (Q_ 8 jB)) (G_ (R_ 139 1 7 10 8 (W_ 143 1 142 [C_ 145 .geq 144 0])) (I_ 145 (V_ (fJ 146 1 7 (m_ 148 10::m_ 149 1::rS 150 1 7 10 8 (fJ 154 1 153 [(F_ 156 92 [t_ 149,t_ 155],[146]),a_ 157 8 147 148,f_ 158 1 157,s_ 1 158 156])))) .skip))))))
def jD:aG:=(y_ 46 9 54 4 5 55 (R_ 47 0 7 8 2 (U_ 51 1 50 [])) (V_ (rS 57 0 7 8 2 (fJ 61 1 60 (m_ 63 9::rS 64 0 7 8 2 (rS 68 1 67 9 2 [L_ 72 2 71,m_ 73 1,(F_ 74 153 [t_ 72,t_ 73],[57,61]),a_ 75 2 62 63,s_ 2 75 74]))))))
def jE:aG:=(y_ 26 8 30 2 3 31 (U_ 27 0 7 []) (J_ (V_ (fJ 33 0 7 (m_ 35 8::m_ 36 1::rS 37 0 7 8 2 (fJ 41 0 40 [(F_ 43 92 [t_ 36,t_ 42],[33]),a_ 44 2 34 35,f_ 45 0 44,s_ 1 45 43])))) (G_ [k_ 9 0] (Q_ 4 jD))))
def jF:aG:=(y_ 14 6 18 0 1 19 (U_ 15 3 5 []) (G_ (R_ 21 3 5 6 6 [L_ 25 6 24,K_ 7 Fg,s_ 6 7 25]) (J_ (G_ [k_ 8 0] (Q_ 2 jE)) (J_ (G_ [k_ 10 0] (Q_ 6 jC)) (G_ [f_ 159 2 7,f_ 160 1 159,L_ 161 2 160,m_ 162 1,F_ 163 153 [t_ 161,t_ 162],f_ 164 2 7,f_ 165 1 164,s_ 2 165 163] (O_ (W_ 166 3 5 [m_ 168 6,L_ 169 6 7,a_ 170 6 167 168,s_ 6 170 169])))))))
def qx:aG:=(G_ [x_ 2 0,K_ 4 DV] (G_ [L_ 12 4 2,F_ 13 37 [t_ 12],K_ 5 DV,s_ 4 5 13] (J_ (G_ [k_ 6 0] (Q_ 0 jF)) (G_ [L_ 171 4 5,s_ 4 4 171] .ret))))
def AO:=gp 96 [.cell 4 (Z 4)] qx
def tf:aG:=(y_ 5 4 9 0 1 10 (U_ 6 3 1 []) (V_ (m_ 12 3::rS 13 3 1 4 6 (fJ 17 0 16 (z_ 19 18::B_ 20 .add 12 19::rS 21 3 1 4 6 (fJ 25 1 24 [z_ 27 26,B_ 28 .add 20 27,m_ 3 28]))))))
def vu:aG:=(.seq (.ops [⟨(Z 1),K,(.box (.tmp 0))⟩,⟨(Z 2),K,(.mv (.const (dC ef 0)))⟩]) (.seq (.ops [⟨(Z 3),K,(.mv (.const (dC ef 0)))⟩]) (.seq (.seq (.ops [⟨(Z 4),K,(.mv (.const (dC ef 0)))⟩]) (.block 0 (.loop tf))) (.seq (.ops [⟨(Z 29),K,(.mv (.tmp 3))⟩,⟨(Z 2),K,(.mv (.tmp 29))⟩]) .ret))))
def Eh:=gp 97 [.tmp 2] vu
def pI:aG:=(y_ 11 5 14 0 1 15 [m_ 12 0,z_ 13 12] (J_ (V_ (Si 17 0 5 3 (fJ 20 0 19 (Si 22 1 5 3 (fJ 25 0 24 [o_ 27 (.bin .neq [2] (t_ 21) (t_ 26)),m_ 28 27,q_ 29 28 b9 (.mv (t_ 0)),q_ 30 28 b9 (.mv (t_ 5)),q_ 31 28 b9 (.ee K 3 (t_ 29) (t_ 30)),q_ 32 28 b9 (.cD 1 (t_ 31)),q_ 33 28 b9 (.load K (t_ 32)),q_ 34 28 b9 (.mv (t_ 1)),q_ 35 28 b9 (.mv (t_ 5)),q_ 36 28 b9 (.ee K 3 (t_ 34) (t_ 35)),q_ 37 28 b9 (.cD 1 (t_ 36)),q_ 38 28 b9 (.load K (t_ 37)),q_ 39 28 b9 (.bin .neq [1] (t_ 33) (t_ 38)),o_ 40 (.pick (t_ 28) (b_ cd) (t_ 39)),m_ 41 40,q_ 42 41 b9 (.mv (t_ 0)),q_ 43 41 b9 (.mv (t_ 5)),q_ 44 41 b9 (.ee K 3 (t_ 42) (t_ 43)),q_ 45 41 b9 (.cD 2 (t_ 44)),q_ 46 41 b9 (.load K (t_ 45)),q_ 47 41 b9 (.mv (t_ 1)),q_ 48 41 b9 (.mv (t_ 5)),q_ 49 41 b9 (.ee K 3 (t_ 47) (t_ 48)),q_ 50 41 b9 (.cD 2 (t_ 49)),q_ 51 41 b9 (.load K (t_ 50)),q_ 52 41 b9 (.call (.func 154) [t_ 46,t_ 51]),q_ 53 41 b9 (.un .not (t_ 52)),o_ 54 (.pick (t_ 41) (b_ cd) (t_ 53))]))))) (I_ 54 (G_ [M_ 4 b9] .ret) .skip)))
def qz:aG:=(G_ [M_ 4 b9] (J_ (G_ [m_ 6 0,z_ 7 6,m_ 8 1,z_ 9 8,X_ 10 .neq 7 9] (I_ 10 (G_ [M_ 4 b9] .ret) .skip)) (J_ (G_ [k_ 5 0] (Q_ 0 pI)) (G_ [M_ 4 cd] .ret))))
def AQ:=gp 98 [.tmp 4] qz
def tn:aG:=(y_ 34 5 38 0 1 39 (U_ 35 3 2 []) (J_ (V_ (rS 41 3 2 5 6 (L_ 45 6 44::rS 46 3 3 5 6 [L_ 50 6 49,F_ 51 155 [t_ 45,t_ 50],o_ 52 (.un .not (t_ 51))]))) (I_ 52 (G_ [M_ 4 b9] .ret) .skip)))
def vE:aG:=(G_ [x_ 2 0,x_ 3 1,M_ 4 b9] (J_ (G_ (W_ 6 0 2 (W_ 8 0 3 (o_ 10 (.bin .neq [2] (t_ 7) (t_ 9))::m_ 11 10::S_ 12 11 b9 [.cD 1 (t_ 2),.load K (t_ 12),.cD 1 (t_ 3),.load K (t_ 14),.bin .neq [1] (t_ 13) (t_ 15)] (o_ 17 (.pick (t_ 11) (b_ cd) (t_ 16))::m_ 18 17::S_ 19 18 b9 [.cD 2 (t_ 2),.load K (t_ 19),.cD 2 (t_ 3),.load K (t_ 21),.bin .neq [1] (t_ 20) (t_ 22)] (o_ 24 (.pick (t_ 18) (b_ cd) (t_ 23))::m_ 25 24::S_ 26 25 b9 [.cD 3 (t_ 2),.load K (t_ 26),.ox (t_ 27),.cD 3 (t_ 3),.load K (t_ 29),.ox (t_ 30),.bin .neq [1] (t_ 28) (t_ 31)] [o_ 33 (.pick (t_ 25) (b_ cd) (t_ 32))]))))) (I_ 33 (G_ [M_ 4 b9] .ret) .skip)) (J_ (G_ [k_ 5 0] (Q_ 0 tn)) (G_ [M_ 4 cd] .ret))))
def Et:=gp 99 [.tmp 4] vE
def tO:aG:=(N_ 25 24 23 2 3 38 (G_ [a_ 26 1 22 24,l_ 27 26,m_ 7 27] (O_ (m_ 28 3::m_ 29 7::T_ 30 3 7 1 [l_ 33 32,m_ 34 4,v_ 35 Ba 1 34,A_ 36 Ba 8 33 35,a_ 37 1 28 29,s_ 1 37 36]))))
def AE:aG:=(N_ 16 15 14 0 1 39 (G_ [m_ 17 15,a_ 18 6 13 15,L_ 19 6 18,K_ 5 Fg,m_ 4 17,s_ 6 5 19] (G_ (f_ 20 2 5::U_ 21 3 20 [k_ 24 0]) (Q_ 2 tO))))
def DD:aG:=(G_ [x_ 1 0,Z_ 2] (G_ (U_ 8 3 1 [o_ 11 (.iO ZD 24 (t_ 10) (t_ 10)),m_ 3 11]) (J_ (G_ (U_ 12 3 1 [k_ 15 0]) (Q_ 0 AE)) (G_ [m_ 40 3,m_ 2 40] .ret))))
def Nz:=gp 101 [.tmp 2] DD
def uE:aG:=(y_ 6 5 9 0 1 10 [m_ 7 0,z_ 8 7] (G_ (T_ 12 0 5 1 [l_ 15 14,m_ 16 1,X_ 17 .eql 15 16]) (I_ 17 (G_ [M_ 4 cd] .ret) .skip)))
def xt:aG:=(.seq (.ops [⟨(Z 4),K,(.mv (.const (dd b9)))⟩]) (.seq (.seq (.ops [⟨(Z 5),K,(.mv (.const (dC ef 0)))⟩]) (.block 0 (.loop uE))) (.seq (.ops [⟨(Z 4),K,(.mv (.const (dd b9)))⟩]) .ret)))
def FL:=gp 104 [.tmp 4] xt
def ou:aG:=(G_ [Z_ 2] (J_ (G_ [m_ 3 0,o_ 4 (.bin .eql [3] (t_ 3) (.const (c6 K 0 0)))] (I_ 4 (G_ [Z_ 2] .ret) .skip)) (G_ [o_ 5 (.fC 0 [] []),m_ 6 0,A_ 7 Fg 96 5 6,m_ 2 7] .ret)))
def oy:=gp 126 [.tmp 2] ou
def qR:aG:=(G_ [Z_ 2] (J_ (G_ [m_ 3 0,o_ 4 (.bin .eql [3] (t_ 3) (.const (c6 K 0 0)))] (I_ 4 (G_ [Z_ 2] .ret) .skip)) (G_ [o_ 5 (.fC 0 [] []),m_ 6 0,A_ 7 Wu 32 5 6,m_ 2 7] .ret)))
def qU:=gp 127 [.tmp 2] qR
def qS:aG:=(G_ [Z_ 2] (J_ (G_ [m_ 3 0,o_ 4 (.bin .eql [3] (t_ 3) (.const (c6 K 0 0)))] (I_ 4 (G_ [Z_ 2] .ret) .skip)) (G_ [o_ 5 (.fC 0 [] []),m_ 6 0,A_ 7 va 16 5 6,m_ 2 7] .ret)))
def ju:=gp 128 [.tmp 2] qS
def qQ:aG:=(G_ [Z_ 2] (J_ (G_ [m_ 3 0,o_ 4 (.bin .eql [3] (t_ 3) (.const (c6 K 0 0)))] (I_ 4 (G_ [Z_ 2] .ret) .skip)) (G_ [o_ 5 (.fC 0 [] []),m_ 6 0,A_ 7 I1 80 5 6,m_ 2 7] .ret)))
def qT:=gp 129 [.tmp 2] qQ
def Il:aG:=(.seq (.ops [⟨(Z 1),K,(.box (.tmp 0))⟩,⟨(Z 2),K,(.mv (.const .nilFunc))⟩]) (.seq (.ops [⟨(Z 3),K,(.uP 192 [(.tmp 1)])⟩,⟨(Z 2),K,(.mv (.tmp 3))⟩]) .ret))
def S8:=gp 132 [.tmp 2] Il
def mS:aG:=(N_ 9 8 7 0 1 18 (G_ [m_ 10 8,m_ 5 10] (G_ (m_ 11 1::T_ 12 0 5 2 [L_ 15 2 14,o_ 16 (.call (t_ 11) [t_ 15])]) (I_ 16 (G_ [m_ 17 5,m_ 4 17] .ret) .skip))))
def ov:aG:=(.seq (.ops [⟨(Z 4),K,(.mv (.const (dC ef 0)))⟩]) (.seq (.seq (.ops [⟨(Z 6),K,(.mv (.tmp 0))⟩,⟨(Z 7),K,(.ox (.tmp 6))⟩,⟨(Z 8),K,(.mv (.const (dC ef 0)))⟩]) (.block 0 (.loop mS))) (.seq (.ops [⟨(Z 4),K,(.mv (.const (dC ef (bL 0))))⟩]) .ret)))
def oz:=gp 133 [.tmp 4] ov
def rB:aG:=(N_ 165 164 163 18 19 176 (G_ [m_ 166 164,a_ 167 2 162 164,L_ 168 2 167,K_ 22 va,m_ 21 166,s_ 2 22 168] (V_ (fJ 169 7 20 [m_ 171 21,m_ 172 3,L_ 173 2 22,(F_ 174 195 [t_ 172,t_ 173],[169]),a_ 175 2 170 171,s_ 2 175 174]))))
def ZL:aG:=(V_ [m_ 151 3,f_ 152 2 20,L_ 153 2 152,m_ 155 3,f_ 156 4 20,L_ 157 2 156,(F_ 154 195 [t_ 151,t_ 153],[156]),f_ 159 2 20,F_ 158 195 [t_ 155,t_ 157],s_ 2 159 154,f_ 160 4 20,s_ 2 160 158])
def ZI:aG:=(O_ (W_ 185 1 14 [m_ 187 19,L_ 188 8 20,a_ 189 8 186 187,s_ 8 189 188]))
def rC:aG:=(N_ 147 146 145 16 17 190 (G_ [m_ 148 146,a_ 149 8 144 146,L_ 150 8 149,K_ 20 I1,m_ 19 148,s_ 8 20 150] (J_ ZL (J_ (G_ (U_ 161 7 20 [k_ 164 0]) (Q_ 18 rB)) (J_ (G_ (W_ 177 1 20 [C_ 179 .geq 178 0]) (I_ 179 (O_ (m_ 180 3::W_ 181 1 20 [F_ 183 194 [t_ 180,t_ 182],f_ 184 1 20,s_ 1 184 183])) .skip)) ZI)))))
def rD:aG:=(N_ 130 129 128 14 15 141 (G_ [m_ 131 129,a_ 132 2 127 129,L_ 133 2 132,K_ 18 va,m_ 17 131,s_ 2 18 133] (V_ (fJ 134 1 16 [m_ 136 17,m_ 137 3,L_ 138 2 18,(F_ 139 195 [t_ 137,t_ 138],[134]),a_ 140 2 135 136,s_ 2 140 139]))))
def rE:aG:=(N_ 113 112 111 12 13 142 (G_ [m_ 114 112,a_ 115 2 110 112,L_ 116 2 115,K_ 16 Wu,m_ 15 114,s_ 2 16 116] (J_ (V_ (fJ 117 0 14 (m_ 119 15::m_ 120 3::fJ 121 0 16 [(F_ 123 194 [t_ 120,t_ 122],[117]),a_ 124 2 118 119,f_ 125 0 124,s_ 1 125 123]))) (G_ (U_ 126 1 16 [k_ 129 0]) (Q_ 14 rD)))))
def ZF:aG:=(V_ (fJ 191 3 1 [m_ 193 13,m_ 194 3,f_ 195 2 14,f_ 196 1 195,L_ 197 2 196,(F_ 198 195 [t_ 194,t_ 197],[191]),a_ 199 6 192 193,f_ 200 2 199,f_ 201 1 200,s_ 2 201 198]))
def rF:aG:=(N_ 105 104 103 10 11 202 (G_ [m_ 106 104,a_ 107 6 102 104,L_ 108 6 107,K_ 14 Fg,m_ 13 106,s_ 6 14 108] (J_ (G_ (U_ 109 0 14 [k_ 112 0]) (Q_ 12 rE)) (J_ (G_ (U_ 143 1 14 [k_ 146 0]) (Q_ 16 rC)) ZF))))
def rG:aG:=(N_ 80 79 78 8 9 86 (G_ [a_ 81 2 77 79,L_ 82 2 81,K_ 12 va,s_ 2 12 82] (O_ [m_ 83 3,L_ 84 2 12,F_ 85 195 [t_ 83,t_ 84]])))
def rH:aG:=(N_ 65 64 63 6 7 94 (G_ [a_ 66 8 62 64,L_ 67 8 66,K_ 10 I1,s_ 8 10 67] (G_ [m_ 68 3,f_ 69 2 10,L_ 70 2 69,F_ 71 195 [t_ 68,t_ 70]] (G_ [m_ 72 3,f_ 73 4 10,L_ 74 2 73,F_ 75 195 [t_ 72,t_ 74]] (J_ (G_ (U_ 76 7 10 [k_ 79 0]) (Q_ 8 rG)) (G_ (W_ 87 1 10 [C_ 89 .geq 88 0]) (I_ 89 (O_ (m_ 90 3::W_ 91 1 10 [F_ 93 194 [t_ 90,t_ 92]])) .skip)))))))
def rI:aG:=(N_ 53 52 51 4 5 60 (G_ [a_ 54 2 50 52,L_ 55 2 54,K_ 8 Wu,s_ 2 8 55] (O_ (m_ 56 3::W_ 57 0 8 [F_ 59 194 [t_ 56,t_ 58]]))))
def rJ:aG:=(N_ 46 45 44 2 3 100 (G_ [a_ 47 6 43 45,L_ 48 6 47,K_ 6 Fg,s_ 6 6 48] (J_ (G_ (U_ 49 0 6 [k_ 52 0]) (Q_ 4 rI)) (J_ (G_ (U_ 61 1 6 [k_ 64 0]) (Q_ 6 rH)) (O_ [m_ 95 3,f_ 96 2 6,f_ 97 1 96,L_ 98 2 97,F_ 99 195 [t_ 95,t_ 98]])))))
def rK:aG:=(N_ 36 35 34 0 1 41 (G_ [m_ 37 35,m_ 4 37] (O_ [m_ 38 3,m_ 39 4,F_ 40 194 [t_ 38,t_ 39]])))
def Bx:aG:=(G_ [x_ 1 0,K_ 2 DV] (J_ (V_ [L_ 23 4 1,L_ 24 4 1,(F_ 25 138 [t_ 24],[1]),F_ 26 137 [t_ 23,t_ 25],s_ 4 1 26]) (G_ (o_ 27 (.fC 1 Ba [(0,(1,(.const (dC ef (bL 0)))))])::W_ 28 2 1 [F_ 30 144 [t_ 27,t_ 29],o_ 31 (.build [(c6 K 0 0),(dC ef 0)] [(0,(1,(t_ 30)))]),x_ 32 31,m_ 3 32]) (J_ (G_ (W_ 33 1 1 [k_ 35 0]) (Q_ 0 rK)) (J_ (G_ (U_ 42 3 1 [k_ 45 0]) (Q_ 2 rJ)) (J_ (G_ (U_ 101 3 1 [k_ 104 0]) (Q_ 10 rF)) (G_ (m_ 203 3::n_ 204 203::W_ 205 1 204 [f_ 207 2 1,s_ 1 207 206]) (G_ [L_ 208 4 1,s_ 4 2 208] .ret))))))))
def Kq:=gp 135 [.cell 2 (Z 4)] Bx
def WO:aG:=(V_ (m_ 54 4::m_ 55 4::n_ 56 55::fJ 57 1 56 (fJ 59 1 6 [A_ 61 I1 80 58 60,n_ 62 54,f_ 63 1 62,s_ 1 63 61])))
def Qm:aG:=(G_ [m_ 64 5,m_ 65 3,F_ 66 196 [t_ 1,t_ 64,t_ 65]] (G_ [m_ 67 4,f_ 68 2 6,L_ 69 4 68,n_ 70 67,f_ 71 2 70,s_ 4 71 69] (O_ (W_ 72 3 1 [m_ 74 5,o_ 75 (.build Tt [(0,(1,(i_ 1)))]),o_ 76 (.build Fg [(2,(4,(t_ 75)))]),a_ 77 6 73 74,s_ 6 77 76]))))
def qb:aG:=(J_ (G_ (m_ 18 4::n_ 19 18::f_ 20 2 19::W_ 21 0 20 [Y_ 23 .eql 22 2]) (H_ 23 2)) (P_ 3 (G_ (m_ 24 4::n_ 25 24::f_ 26 2 25::W_ 27 3 26 [o_ 29 (.ee K 1 (t_ 28) (i_ 0)),l_ 30 29,m_ 5 30]) (G_ (R_ 31 3 1 5 6 [L_ 35 6 34,K_ 6 Fg,s_ 6 6 35]) (J_ (G_ (m_ 36 5::m_ 37 3::X_ 38 .eql 36 37::m_ 39 38::S_ 40 39 b9 [.cD 0 (t_ 6),.load K (t_ 40),.ox (t_ 41),.bin .gtr [] (t_ 42) (i_ 0)] (o_ 44 (.pick (t_ 39) (b_ cd) (t_ 43))::m_ 45 44::S_ 46 45 b9 [.load (Z 4) (t_ 1),.call (.func 101) [t_ 46],.mv (t_ 5),.ee K 1 (t_ 47) (t_ 48),.load K (t_ 49),.ox (t_ 50),.bin .gtr [] (t_ 51) (i_ 1)] [o_ 53 (.pick (t_ 45) (b_ cd) (t_ 52))])) (I_ 53 (.exit 2) .skip)) (J_ WO Qm))))))
def xQ:aG:=(y_ 7 3 11 0 1 12 (U_ 8 3 1 []) (G_ (R_ 14 3 1 3 6 [m_ 4 17]) (Q_ 2 qb)))
def Ay:aG:=(G_ [x_ 1 0,K_ 2 DV] (J_ (G_ [k_ 3 0] (Q_ 0 xQ)) (G_ [L_ 78 4 1,s_ 4 2 78] .ret)))
def Jd:=gp 136 [.cell 2 (Z 4)] Ay
set_option maxRecDepth 100000
def yr:aG:=(N_ 123 122 121 10 11 136 (G_ [m_ 124 122,a_ 125 1 120 122,l_ 126 125,m_ 21 124,m_ 22 126] (V_ (f_ 127 2 12::fJ 128 3 127 (m_ 130 21::Si 131 5 22 1 [l_ 134 133,a_ 135 1 129 130,s_ 1 135 134])))))
def nW:aG:=(N_ 98 97 96 8 9 116 (G_ [a_ 99 3 95 97,L_ 100 3 99,K_ 20 VN,s_ 3 20 100] (V_ (fJ 101 0 12 (m_ 103 13::rS 104 0 12 13 2 (fJ 108 1 107 [f_ 110 1 20,L_ 111 2 110,v_ 112 va 2 111,(A_ 113 va 16 109 112,[101]),a_ 114 2 102 103,f_ 115 1 114,s_ 1 115 113]))))))
def rU:aG:=(N_ 65 64 63 6 7 87 (G_ [m_ 66 64,a_ 67 2 62 64,L_ 68 2 67,K_ 17 va,m_ 16 66,s_ 2 17 68] (G_ (m_ 69 5::T_ 70 8 11 1 [l_ 73 72,m_ 74 16,a_ 75 1 73 74,l_ 76 75,a_ 77 1 69 76,l_ 78 77,m_ 18 78]) (G_ [m_ 79 18,C_ 80 .geq 79 0] (I_ 80 (O_ [m_ 81 15,m_ 82 18,L_ 83 2 17,o_ 84 (.build VN [(0,(1,(t_ 82))),(1,(2,(t_ 83)))]),v_ 85 VN 3 84,A_ 86 VN 24 81 85,m_ 15 86]) .skip)))))
def yv:aG:=(N_ 57 56 55 4 5 117 (G_ [m_ 58 56,a_ 59 2 54 56,L_ 60 2 59,K_ 14 Wu,m_ 13 58,s_ 2 14 60] (G_ [Z_ 15] (J_ (G_ (U_ 61 1 14 [k_ 64 0]) (Q_ 6 rU)) (G_ [m_ 88 15,F_ 89 197 [t_ 88,(.func 198)]] (G_ (R_ 90 0 12 13 2 [f_ 94 1 93,u_ (.store 1 (t_ 94) (.const (c6 K 0 0)))]) (G_ [m_ 95 15,z_ 96 95,k_ 97 0] (Q_ 8 nW))))))))
def yw:aG:=(N_ 45 44 43 2 3 141 (G_ [a_ 46 1 42 44,l_ 47 46,m_ 11 47] (G_ (R_ 48 3 2 11 6 [L_ 52 6 51,K_ 12 Fg,s_ 6 12 52]) (J_ (G_ (U_ 53 0 12 [k_ 56 0]) (Q_ 4 yv)) (J_ (G_ (f_ 118 2 12::U_ 119 3 118 [k_ 122 0]) (Q_ 10 yr)) (O_ [m_ 137 9,L_ 138 6 12,v_ 139 Fg 6 138,A_ 140 Fg 96 137 139,m_ 9 140]))))))
def yy:aG:=(N_ 31 30 29 0 1 39 (G_ [m_ 32 30,a_ 33 1 28 30,l_ 34 33,m_ 6 32,m_ 7 34] (O_ [m_ 35 5,m_ 36 7,m_ 37 6,a_ 38 1 35 36,s_ 1 38 37])))
def Ir:aG:=(G_ [x_ 2 0,K_ 4 DV] (G_ (o_ 23 (.fC 1 Ba [(0,(1,(.const (dC ef (bL 0)))))])::U_ 24 3 2 [F_ 27 144 [t_ 23,t_ 26],m_ 5 27]) (J_ (G_ [m_ 28 1,z_ 29 28,k_ 30 0] (Q_ 0 yy)) (G_ [L_ 40 4 2,F_ 41 101 [t_ 40],m_ 8 41] (G_ [Z_ 9] (J_ (G_ [m_ 42 1,z_ 43 42,k_ 44 0] (Q_ 2 yw)) (G_ [m_ 142 9,f_ 143 3 2,s_ 1 143 142] (G_ [L_ 144 4 2,s_ 4 4 144] .ret))))))))
def Te:=gp 137 [.cell 4 (Z 4)] Ir
def Aw:aG:=(G_ [x_ 1 0,Z_ 2] (G_ [L_ 4 4 1,F_ 5 87 [t_ 4],m_ 3 5] (G_ [m_ 6 3,F_ 7 199 [t_ 6]] (G_ [m_ 8 3,m_ 2 8] .ret))))
def Jb:=gp 138 [.tmp 2] Aw
def jA:aG:=(N_ 9 8 7 0 1 18 (G_ [m_ 10 8,m_ 5 10] (G_ (m_ 11 1::T_ 12 0 5 1 [l_ 15 14,o_ 16 (.bin .eql [2] (t_ 11) (t_ 15))]) (I_ 16 (G_ [m_ 17 5,m_ 4 17] .ret) .skip))))
def j4:aG:=(.seq (.ops [⟨(Z 4),K,(.mv (.const (dC ef 0)))⟩]) (.seq (.seq (.ops [⟨(Z 6),K,(.mv (.tmp 0))⟩,⟨(Z 7),K,(.ox (.tmp 6))⟩,⟨(Z 8),K,(.mv (.const (dC ef 0)))⟩]) (.block 0 (.loop jA))) (.seq (.ops [⟨(Z 4),K,(.mv (.const (dC ef (bL 0))))⟩]) .ret)))
def tE:=gp 139 [.tmp 4] j4
def vh:aG:=(G_ [x_ 2 0,x_ 3 1,k_ 4 0] (J_ (P_ 0 (G_ (W_ 6 0 3 [F_ 8 80 [t_ 7,(i_ 1),(i_ 3)],o_ 9 (.un .not (t_ 8)),m_ 5 9]) (I_ 5 (G_ [k_ 4 4] .ret) (J_ (V_ (fJ 11 3 3 (z_ 13 12::fJ 14 0 3 [o_ 16 (.ee (Z 4) 1 (.global 0) (t_ 15)),l_ 17 16,X_ 18 .neq 13 17,m_ 10 18]))) (I_ 10 (G_ [k_ 4 9] .ret) (G_ (W_ 20 3 3 [o_ 22 (.uP 201 [t_ 2]),F_ 23 200 [t_ 21,t_ 22],m_ 19 23]) (I_ 19 (G_ [k_ 4 3] .ret) (J_ (V_ (fJ 25 0 3 [Y_ 27 .eql 26 3,m_ 28 27,q_ 29 28 cd (.cD 3 (t_ 3)),q_ 30 28 cd (.load K (t_ 29)),q_ 31 28 cd (.ee K 1 (t_ 30) (i_ 0)),q_ 32 28 cd (.load K (t_ 31)),q_ 33 28 cd (.cD 3 (t_ 3)),q_ 34 28 cd (.load K (t_ 33)),q_ 35 28 cd (.ee K 1 (t_ 34) (i_ 1)),q_ 36 28 cd (.load K (t_ 35)),q_ 37 28 cd (.bin .eql [1] (t_ 32) (t_ 36)),o_ 38 (.pick (t_ 28) (t_ 37) (b_ b9)),m_ 39 38,q_ 40 39 b9 (.cD 0 (t_ 3)),q_ 41 39 b9 (.load K (t_ 40)),q_ 42 39 b9 (.bin .eql [1] (t_ 41) (i_ 2)),q_ 43 39 b9 (.mv (t_ 42)),q_ 44 43 cd (.cD 1 (t_ 3)),q_ 45 43 cd (.load (Z 2) (t_ 44)),q_ 46 43 cd (.build va []),q_ 47 43 cd (.bin .neq [9,0,1] (t_ 45) (t_ 46)),q_ 48 39 b9 (.pick (t_ 43) (t_ 47) (b_ b9)),o_ 49 (.pick (t_ 39) (b_ cd) (t_ 48)),m_ 24 49])) (I_ 24 (G_ [k_ 4 5] .ret) .skip))))))))) (G_ [L_ 50 7 2,f_ 51 1 3,L_ 52 2 51,F_ 53 202 [t_ 50,t_ 52],m_ 4 53] .ret)))
def D7:=gp 140 [.tmp 4] vh
def wy:aG:=(N_ 25 24 23 2 3 38 (G_ [a_ 26 1 22 24,l_ 27 26,m_ 7 27] (O_ (m_ 28 3::m_ 29 7::T_ 30 3 7 1 [l_ 33 32,m_ 34 4,v_ 35 Ba 1 34,A_ 36 Ba 8 33 35,a_ 37 1 28 29,s_ 1 37 36]))))
def Cf:aG:=(N_ 16 15 14 0 1 39 (G_ [m_ 17 15,a_ 18 6 13 15,L_ 19 6 18,K_ 5 Fg,m_ 4 17,s_ 6 5 19] (G_ (f_ 20 2 5::U_ 21 3 20 [k_ 24 0]) (Q_ 2 wy))))
def Fu:aG:=(G_ [x_ 1 0,Z_ 2] (G_ (U_ 8 3 1 [o_ 11 (.iO ZD 24 (t_ 10) (t_ 10)),m_ 3 11]) (J_ (G_ (U_ 12 3 1 [k_ 15 0]) (Q_ 0 Cf)) (G_ [m_ 40 3,m_ 2 40] .ret))))
def Qd:=gp 141 [.tmp 2] Fu
def td:aG:=(N_ 34 33 32 0 1 43 (G_ [a_ 35 2 31 33,L_ 36 2 35,K_ 9 va,s_ 2 9 36] (G_ [L_ 37 7 3,L_ 38 2 9,F_ 39 202 [t_ 37,t_ 38],m_ 10 39] (G_ [m_ 40 10,Y_ 41 .neq 40 0] (I_ 41 (G_ [m_ 42 10,m_ 6 42] .ret) .skip)))))
def vj:aG:=(G_ [x_ 3 0,x_ 5 2,k_ 6 0] (J_ (G_ [m_ 11 1,Y_ 12 .eql 11 0] (I_ 12 (G_ [k_ 6 5] .ret) .skip)) (J_ (G_ (L_ 13 7 3::W_ 14 0 5 [F_ 16 203 [t_ 13,t_ 15],m_ 7 16]) (G_ [m_ 17 7,Y_ 18 .neq 17 0] (I_ 18 (G_ [m_ 19 7,m_ 6 19] .ret) .skip))) (J_ (J_ (V_ (fJ 20 1 5 (z_ 22 21::rS 23 6 3 1 1 [l_ 27 26,z_ 28 27,X_ 29 .neq 22 28]))) (I_ 29 (G_ [k_ 6 9] .ret) .skip)) (J_ (G_ (U_ 30 1 5 [k_ 33 0]) (Q_ 0 td)) (G_ [k_ 6 0] .ret))))))
def D9:=gp 142 [.tmp 6] vj
def Yc:List cn:=[⟨(Z 18),K,(.cD 0 (.tmp 5))⟩,⟨(Z 19),K,(.load K (.tmp 18))⟩,⟨(Z 20),K,(.un .not (.tmp 19))⟩,⟨(Z 21),K,(.mv (.tmp 20))⟩,⟨(Z 22),(Z (21,cd)),(.cD 1 (.tmp 3))⟩,⟨(Z 23),(Z (21,cd)),(.load K (.tmp 22))⟩,⟨(Z 24),(Z (21,cd)),(.bin .neq [1] (.tmp 23) (.const (dC ef (bL 0))))⟩,⟨(Z 25),K,(.pick (.tmp 21) (.tmp 24) (.const (dd b9)))⟩,⟨(Z 26),K,(.mv (.tmp 25))⟩,⟨(Z 27),(Z (26,b9)),(.cD 1 (.tmp 5))⟩,⟨(Z 28),(Z (26,b9)),(.load K (.tmp 27))⟩,⟨(Z 29),(Z (26,b9)),(.un .not (.tmp 28))⟩,⟨(Z 30),(Z (26,b9)),(.mv (.tmp 29))⟩,⟨(Z 31),(Z (30,cd)),(.cD 2 (.tmp 3))⟩,⟨(Z 32),(Z (30,cd)),(.load (Z 2) (.tmp 31))⟩,⟨(Z 33),(Z (30,cd)),(.build va [])⟩,⟨(Z 34),(Z (30,cd)),(.bin .neq [9,0,1] (.tmp 32) (.tmp 33))⟩,⟨(Z 35),(Z (26,b9)),(.pick (.tmp 30) (.tmp 34) (.const (dd b9)))⟩,⟨(Z 36),K,(.pick (.tmp 26) (.const (dd cd)) (.tmp 35))⟩,⟨(Z 37),K,(.mv (.tmp 36))⟩,⟨(Z 38),(Z (37,b9)),(.cD 2 (.tmp 5))⟩,⟨(Z 39),(Z (37,b9)),(.load K (.tmp 38))⟩,⟨(Z 40),(Z (37,b9)),(.un .not (.tmp 39))⟩,⟨(Z 41),(Z (37,b9)),(.mv (.tmp 40))⟩,⟨(Z 42),(Z (41,cd)),(.cD 4 (.tmp 3))⟩,⟨(Z 43),(Z (41,cd)),(.load (Z 2) (.tmp 42))⟩,⟨(Z 44),(Z (41,cd)),(.build va [])⟩,⟨(Z 45),(Z (41,cd)),(.bin .neq [9,0,1] (.tmp 43) (.tmp 44))⟩,⟨(Z 46),(Z (37,b9)),(.pick (.tmp 41) (.tmp 45) (.const (dd b9)))⟩,⟨(Z 47),K,(.pick (.tmp 37) (.const (dd cd)) (.tmp 46))⟩,⟨(Z 48),K,(.mv (.tmp 47))⟩,⟨(Z 49),(Z (48,b9)),(.load K (.tmp 6))⟩,⟨(Z 50),(Z (48,b9)),(.un .not (.tmp 49))⟩,⟨(Z 51),(Z (48,b9)),(.mv (.tmp 50))⟩,⟨(Z 52),(Z (51,cd)),(.cD 6 (.tmp 3))⟩,⟨(Z 53),(Z (51,cd)),(.load K (.tmp 52))⟩,⟨(Z 54),(Z (51,cd)),(.bin .neq [1] (.tmp 53) (.const (dC ef 0)))⟩,⟨(Z 55),(Z (51,cd)),(.mv (.tmp 54))⟩,⟨(Z 56),(Z (55,b9)),(.cD 7 (.tmp 3))⟩,⟨(Z 57),(Z (55,b9)),(.load K (.tmp 56))⟩,⟨(Z 58),(Z (55,b9)),(.ox (.tmp 57))⟩,⟨(Z 59),(Z (55,b9)),(.bin .gtr [] (.tmp 58) (.const (dC ef 0)))⟩,⟨(Z 60),(Z (51,cd)),(.pick (.tmp 55) (.const (dd cd)) (.tmp 59))⟩,⟨(Z 61),(Z (48,b9)),(.pick (.tmp 51) (.tmp 60) (.const (dd b9)))⟩,⟨(Z 62),K,(.pick (.tmp 48) (.const (dd cd)) (.tmp 61))⟩]
def Q9:aG:=(J_ (G_ (W_ 63 0 5 (m_ 65 64::S_ 66 65 cd [.load K (t_ 6),.mv (t_ 66)] (S_ 68 67 cd [.cD 1 (t_ 3),.load K (t_ 68),.bin .eql [1] (t_ 69) (.const (dC ef (bL 0)))] (S_ 71 65 cd [.pick (t_ 67) (t_ 70) (b_ b9),.un .not (t_ 71)] [o_ 73 (.pick (t_ 65) (t_ 72) (b_ b9))])))) (I_ 73 (G_ (L_ 74 7 2::W_ 75 1 3 [F_ 77 203 [t_ 74,t_ 76],m_ 7 77]) (G_ [m_ 78 7,Y_ 79 .neq 78 0] (I_ 79 (G_ [m_ 80 7,m_ 4 80] .ret) .skip))) .skip)) (G_ [o_ 81 (.uP 205 [t_ 2,t_ 3]),o_ 82 (.uP 206 [t_ 2,t_ 3]),o_ 83 (.uP 207 [t_ 6,t_ 3,t_ 2]),o_ 84 (.fC 3 [.nilFunc,.nilFunc,.nilFunc] [(0,(1,(t_ 81))),(1,(1,(t_ 82))),(2,(1,(t_ 83)))]),F_ 85 204 [t_ 84],m_ 4 85] .ret))
def vi:aG:=(G_ [x_ 2 0,x_ 3 1,k_ 4 0] (J_ (G_ (W_ 8 0 3 [F_ 10 80 [t_ 9,(i_ 1),(i_ 22)],o_ 11 (.un .not (t_ 10))]) (I_ 11 (G_ [k_ 4 4] .ret) .skip)) (G_ (W_ 12 0 3 [F_ 14 193 [t_ 13],K_ 5 S9,s_ 3 5 14]) (G_ (W_ 15 0 3 [Y_ 17 .eql 16 20,o_ 6 (.alloc [(dd b9)]),s_ 1 6 17]) (J_ (J_ (.ops Yc) (I_ 62 (G_ [k_ 4 5] .ret) .skip)) Q9)))))
def D8:=gp 143 [.tmp 4] vi
def xe:aG:=(J_ (G_ [m_ 34 8,m_ 35 7,z_ 36 35,B_ 37 .lss 34 36] (H_ 37 0)) (P_ 1 (V_ [m_ 38 8,m_ 39 7,m_ 40 8,o_ 41 (.slice 1 (t_ 39) (Z (t_ 40)) K K),m_ 42 7,m_ 43 8,o_ 44 (.slice 1 (t_ 42) K (Z (t_ 43)) K),o_ 45 (.copy 1 (t_ 41) (t_ 44)),B_ 46 .add 38 45,m_ 8 46])))
def yJ:aG:=(G_ [Z_ 4] (J_ (G_ [m_ 9 1,C_ 10 .lss 9 0] (I_ 10 (O_ [⟨(Z 11),K,.bad⟩,⟨K,K,.bad⟩]) .skip)) (G_ [m_ 13 0,z_ 14 13,o_ 15 (.conv .u64 (t_ 14)),m_ 16 1,o_ 17 (.conv .u64 (t_ 16)),F_ 18 146 [t_ 15,t_ 17],m_ 12 18,E_ 19 0 12,E_ 20 1 12,m_ 5 19,m_ 6 20] (J_ (G_ (m_ 21 5::o_ 22 (.bin .gtr [] (t_ 21) (.const (.int .u64 0)))::m_ 23 22::S_ 24 23 b9 [.mv (t_ 6),.bin .gtr [] (t_ 24) (.const (.int .u64 9223372036854775807))] [o_ 26 (.pick (t_ 23) (b_ cd) (t_ 25))]) (I_ 26 (O_ [⟨(Z 27),K,.bad⟩,⟨K,K,.bad⟩]) .skip)) (G_ [m_ 28 6,o_ 29 (.conv ef (t_ 28)),o_ 30 (.iO Ba 8 (t_ 29) (t_ 29)),m_ 7 30] (G_ [m_ 31 7,m_ 32 0,o_ 33 (.copy 1 (t_ 31) (t_ 32)),m_ 8 33] (J_ (Q_ 0 xe) (G_ [m_ 47 7,m_ 4 47] .ret))))))))
def px:=gp 144 [.tmp 4] yJ
def Gz:aG:=(J_ (G_ [m_ 9 2,m_ 10 3,X_ 11 .neq 9 10] (H_ 11 0)) (P_ 1 (J_ (J_ (V_ (Si 12 1 2 1 (l_ 15 14::Si 16 1 3 1 [l_ 19 18,B_ 20 .lss 15 19]))) (I_ 20 (O_ [m_ 21 3,m_ 22 2,m_ 2 21,m_ 3 22]) .skip)) (O_ (T_ 23 0 2 1 [l_ 26 25,m_ 2 26])))))
def Ka:aG:=(.seq (.ops [⟨(Z 8),K,(.mv (.const (dC ef 0)))⟩]) (.seq (.block 0 (.loop Gz)) (.seq (.ops [⟨(Z 27),K,(.mv (.tmp 2))⟩,⟨(Z 8),K,(.mv (.tmp 27))⟩]) .ret)))
def WM:=gp 145 [.tmp 8] Ka
def Ax:aG:=(G_ [o_ 4 (.mv (.const (.int .u64 0))),o_ 5 (.mv (.const (.int .u64 0)))] (J_ (.cond (b_ b9) (G_ [m_ 11 0,o_ 12 (.conv .u32 (t_ 11)),m_ 13 1,o_ 14 (.conv .u32 (t_ 13)),F_ 15 208 [t_ 12,t_ 14],m_ 10 15,E_ 16 0 10,E_ 17 1 10,m_ 6 16,m_ 7 17] (G_ [m_ 18 6,o_ 19 (.conv .u64 (t_ 18)),m_ 20 7,o_ 21 (.conv .u64 (t_ 20)),m_ 4 19,m_ 5 21] .ret)) .skip) (G_ [m_ 23 0,m_ 24 1,F_ 25 209 [t_ 23,t_ 24],m_ 22 25,E_ 26 0 22,E_ 27 1 22,m_ 8 26,m_ 9 27] (G_ [m_ 28 8,m_ 29 9,m_ 4 28,m_ 5 29] .ret))))
def Jc:=gp 146 [(.tmp 4),(.tmp 5)] Ax
def Bt:aG:=(G_ [l_ 8 1,m_ 9 0,a_ 10 1 8 9,u_ (.store 1 (t_ 10) (b_ cd))] (J_ (G_ (R_ 11 3 2 0 6 (f_ 15 2 14::W_ 16 3 15 [F_ 18 148 [t_ 17]])) (P_ 0 (.RO (t_ 18) [19,20] (O_ [m_ 7 20]) (P_ 1 (G_ [l_ 21 1,m_ 22 7,a_ 23 1 21 22,l_ 24 23,o_ 25 (.un .not (t_ 24))] (I_ 25 (O_ [l_ 26 3,m_ 27 7,o_ 28 (.call (t_ 26) [t_ 27])]) .skip)))))) (O_ [l_ 29 4,m_ 30 0,v_ 31 Ba 1 30,A_ 32 Ba 8 29 31,s_ 1 4 32])))
def Kl:=gp 147 [] Bt
def mD:aG:=(.seq (.ops [⟨(Z 1),K,(.box (.tmp 0))⟩,⟨(Z 2),K,(.mv (.const .nilFunc))⟩]) (.seq (.ops [⟨(Z 3),K,(.uP 210 [(.tmp 1)])⟩,⟨(Z 2),K,(.mv (.tmp 3))⟩]) .ret))
def wR:=gp 148 [.tmp 2] mD
def tY:aG:=(G_ [M_ 8 b9] (J_ (G_ (m_ 9 0::n_ 10 9::R_ 11 5 10 1 2 (W_ 15 0 14 [C_ 17 .geq 16 0])) (I_ 17 (G_ [M_ 8 b9] .ret) .skip)) (G_ (m_ 18 0::n_ 19 18::W_ 20 5 19 [m_ 22 1,m_ 23 2,m_ 24 3,o_ 25 (.build Na [(0,(1,(t_ 23))),(1,(1,(t_ 24)))]),a_ 26 2 21 22,s_ 2 26 25]) (G_ [M_ 8 cd] .ret))))
def CY:=gp 149 [.tmp 8] tY
def tX:aG:=(G_ [x_ 5 1,M_ 8 b9] (J_ (G_ (W_ 10 0 5 [o_ 12 (.un .not (t_ 11))]) (I_ 12 (G_ [M_ 8 cd] .ret) .skip)) (J_ (V_ (m_ 13 0::n_ 14 13::fJ 15 5 14 (fJ 17 1 5 [a_ 19 2 16 18,L_ 20 2 19,K_ 9 Na,s_ 2 9 20]))) (J_ (P_ 0 (G_ (W_ 22 0 9 [C_ 24 .lss 23 0,m_ 21 24]) (I_ 21 (G_ [M_ 8 b9] .ret) (G_ (W_ 26 0 9 [m_ 28 2,X_ 29 .eql 27 28,m_ 25 29]) (I_ 25 (G_ (W_ 30 1 9 [m_ 32 3,B_ 33 .lss 31 32,m_ 8 33]) .ret) .skip))))) (J_ (V_ (m_ 34 0::n_ 35 34::fJ 36 4 35 (fJ 38 0 9 [m_ 40 2,F_ 41 211 [t_ 37,t_ 39,t_ 40],m_ 8 41]))) .ret)))))
def CX:=gp 150 [.tmp 8] tX
def vA:aG:=(G_ [Z_ 4] (J_ (G_ [m_ 5 0,m_ 6 1,F_ 7 104 [t_ 5,t_ 6]] (I_ 7 (G_ [m_ 8 0,m_ 4 8] .ret) .skip)) (G_ [m_ 9 0,m_ 10 1,v_ 11 Ba 1 10,A_ 12 Ba 8 9 11,m_ 4 12] .ret)))
def Eo:=gp 151 [.tmp 4] vA
def pH:aG:=(y_ 6 5 9 0 1 10 [m_ 7 1,z_ 8 7] (G_ (T_ 12 1 5 2 (W_ 15 0 14 [])) (I_ 16 (O_ (m_ 17 0::T_ 18 1 5 2 (W_ 21 1 20 [F_ 23 151 [t_ 17,t_ 22],m_ 0 23]))) .skip)))
def qy:aG:=(.seq (.ops [⟨(Z 4),K,(.mv (.const (c6 K 0 0)))⟩]) (.seq (.seq (.ops [⟨(Z 5),K,(.mv (.const (dC ef 0)))⟩]) (.block 0 (.loop pH))) (.seq (.ops [⟨(Z 24),K,(.mv (.tmp 0))⟩,⟨(Z 4),K,(.mv (.tmp 24))⟩]) .ret)))
def AP:=gp 152 [.tmp 4] qy
def um:aG:=(G_ [x_ 2 0,K_ 4 va] (J_ (G_ (W_ 5 0 2 []) (I_ 6 (G_ (m_ 7 1::W_ 8 1 2 [F_ 10 92 [t_ 7,t_ 9],o_ 11 (.build va [(0,(1,(b_ cd))),(1,(1,(t_ 10)))]),s_ 2 4 11]) .ret) .skip)) (G_ [L_ 12 2 2,s_ 2 4 12] .ret)))
def Dc:=gp 153 [.cell 4 (Z 2)] um
def tp:aG:=(y_ 11 5 14 0 1 15 [m_ 12 0,z_ 13 12] (J_ (V_ (Si 17 0 5 1 (l_ 20 19::Si 21 1 5 1 [l_ 24 23,X_ 25 .neq 20 24]))) (I_ 25 (G_ [M_ 4 b9] .ret) .skip)))
def vF:aG:=(G_ [M_ 4 b9] (J_ (G_ [m_ 6 0,z_ 7 6,m_ 8 1,z_ 9 8,X_ 10 .neq 7 9] (I_ 10 (G_ [M_ 4 b9] .ret) .skip)) (J_ (G_ [k_ 5 0] (Q_ 0 tp)) (G_ [M_ 4 cd] .ret))))
def Eu:=gp 154 [.tmp 4] vF
def kv:aG:=(y_ 59 6 63 2 3 64 (U_ 60 1 2 []) (J_ (V_ (rS 66 1 2 6 8 (L_ 70 8 69::rS 71 1 3 6 8 [L_ 75 8 74,F_ 76 213 [t_ 70,t_ 75],o_ 77 (.un .not (t_ 76))]))) (I_ 77 (G_ [M_ 4 b9] .ret) .skip)))
def kx:aG:=(y_ 23 5 27 0 1 28 (U_ 24 0 2 []) (J_ (V_ (rS 30 0 2 5 2 (fJ 34 0 33 (rS 36 0 3 5 2 (fJ 40 0 39 [X_ 42 .neq 35 41,m_ 43 42,q_ 44 43 b9 (.cD 0 (t_ 2)),q_ 45 43 b9 (.load K (t_ 44)),q_ 46 43 b9 (.mv (t_ 5)),q_ 47 43 b9 (.ee K 2 (t_ 45) (t_ 46)),q_ 48 43 b9 (.cD 1 (t_ 47)),q_ 49 43 b9 (.load K (t_ 48)),q_ 50 43 b9 (.cD 0 (t_ 3)),q_ 51 43 b9 (.load K (t_ 50)),q_ 52 43 b9 (.mv (t_ 5)),q_ 53 43 b9 (.ee K 2 (t_ 51) (t_ 52)),q_ 54 43 b9 (.cD 1 (t_ 53)),q_ 55 43 b9 (.load K (t_ 54)),q_ 56 43 b9 (.call (.func 212) [t_ 49,t_ 55]),q_ 57 43 b9 (.un .not (t_ 56)),o_ 58 (.pick (t_ 43) (b_ cd) (t_ 57))]))))) (I_ 58 (G_ [M_ 4 b9] .ret) .skip)))
def uq:aG:=(G_ [x_ 2 0,x_ 3 1,M_ 4 b9] (J_ (G_ (U_ 7 0 2 (U_ 10 0 3 (X_ 13 .neq 9 12::m_ 14 13::S_ 15 14 b9 [.cD 1 (t_ 2),.load K (t_ 15),.ox (t_ 16),.cD 1 (t_ 3),.load K (t_ 18),.ox (t_ 19),.bin .neq [1] (t_ 17) (t_ 20)] [o_ 22 (.pick (t_ 14) (b_ cd) (t_ 21))]))) (I_ 22 (G_ [M_ 4 b9] .ret) .skip)) (J_ (G_ [k_ 5 0] (Q_ 0 kx)) (J_ (G_ [k_ 6 0] (Q_ 2 kv)) (G_ (f_ 78 2 2::W_ 79 0 78 (f_ 81 2 3::W_ 82 0 81 (X_ 84 .eql 80 83::m_ 85 84::S_ 86 85 cd [.cD 2 (t_ 2),.cD 1 (t_ 86),.load (Z 2) (t_ 87),.cD 2 (t_ 3),.cD 1 (t_ 89),.load (Z 2) (t_ 90),.bin .eql [9,0,1] (t_ 88) (t_ 91)] (o_ 93 (.pick (t_ 85) (t_ 92) (b_ b9))::m_ 94 93::S_ 95 94 cd [.cD 2 (t_ 2),.cD 3 (t_ 95),.load K (t_ 96),.cD 2 (t_ 3),.cD 3 (t_ 98),.load K (t_ 99),.call (.func 154) [t_ 97,t_ 100]] [o_ 102 (.pick (t_ 94) (t_ 101) (b_ b9)),m_ 4 102])))) .ret)))))
def De:=gp 155 [.tmp 4] uq
def nQ:aG:=(N_ 9 8 7 0 1 18 (G_ [m_ 10 8,m_ 5 10] (G_ (m_ 11 1::T_ 12 0 5 1 [l_ 15 14,X_ 16 .eql 11 15]) (I_ 16 (G_ [m_ 17 5,m_ 4 17] .ret) .skip))))
def pK:aG:=(.seq (.ops [⟨(Z 4),K,(.mv (.const (dC ef 0)))⟩]) (.seq (.seq (.ops [⟨(Z 6),K,(.mv (.tmp 0))⟩,⟨(Z 7),K,(.ox (.tmp 6))⟩,⟨(Z 8),K,(.mv (.const (dC ef 0)))⟩]) (.block 0 (.loop nQ))) (.seq (.ops [⟨(Z 4),K,(.mv (.const (dC ef (bL 0))))⟩]) .ret)))
def zP:=gp 162 [.tmp 4] pK
def jk:FF 166=Z ⟨[],.bad,.run (K8 2) λ_ _ _ _=>PD⟩:=by kernel_rfl
def ji:aG:=(G_ [Z_ 6] (G_ [m_ 8 0,m_ 9 1,m_ 10 2,m_ 11 0,z_ 12 11,o_ 13 (.slice 2 (t_ 8) (Z (t_ 9)) (Z (t_ 10)) (Z (t_ 12)))] (J_ (G_ [m_ 14 1,m_ 15 2,X_ 16 .eql 14 15] (I_ 16 (G_ [m_ 17 0,m_ 6 17] .ret) .skip)) (G_ [m_ 18 0,z_ 19 18,m_ 7 19] (J_ (V_ [m_ 20 0,m_ 21 1,o_ 22 (.slice 2 (t_ 20) K (Z (t_ 21)) K),m_ 23 0,m_ 24 2,o_ 25 (.slice 2 (t_ 23) (Z (t_ 24)) K K),A_ 26 va 16 22 25,m_ 0 26]) (G_ [m_ 27 0,m_ 28 0,z_ 29 28,m_ 30 7,o_ 31 (.slice 2 (t_ 27) (Z (t_ 29)) (Z (t_ 30)) K),u_ (.clear va (t_ 31))] (G_ [m_ 32 0,m_ 6 32] .ret)))))))
def qq:=gp 167 [.tmp 6] ji
def tN:aG:=(N_ 33 32 31 0 1 40 (G_ [a_ 34 2 30 32,L_ 35 2 34,K_ 5 va,s_ 2 5 35] (G_ [m_ 36 0,L_ 37 2 5,o_ 38 (.call (t_ 36) [t_ 37]),o_ 39 (.un .not (t_ 38))] (I_ 39 .ret .skip))))
def DB:aG:=(G_ (W_ 6 0 1 [F_ 8 193 [t_ 7],K_ 3 S9,s_ 3 3 8]) (J_ (G_ (W_ 9 1 3 (m_ 11 10::S_ 12 11 cd [.mv (t_ 0),.cD 2 (t_ 1),.load (Z 2) (t_ 13),.call (t_ 12) [t_ 14],.un .not (t_ 15)] (o_ 17 (.pick (t_ 11) (t_ 16) (b_ b9))::m_ 18 17::S_ 19 18 b9 [.cD 2 (t_ 3),.load K (t_ 19),.mv (t_ 20)] (S_ 22 21 cd [.mv (t_ 0),.cD 4 (t_ 1),.load (Z 2) (t_ 23),.call (t_ 22) [t_ 24],.un .not (t_ 25)] [q_ 27 18 b9 (.pick (t_ 21) (t_ 26) (b_ b9)),o_ 28 (.pick (t_ 18) (b_ cd) (t_ 27))])))) (I_ 28 .ret .skip)) (G_ (U_ 29 7 1 [k_ 32 0]) (Q_ 0 tN))))
def Nx:=gp 192 [] DB
def DA:aG:=(G_ [K_ 2 S9] (J_ (P_ 0 (G_ (m_ 4 0::Y_ 5 .eql 4 1::m_ 6 5::S_ 7 6 b9 [.mv (t_ 0),.bin .eql [1] (t_ 7) (i_ 16)] (o_ 9 (.pick (t_ 6) (b_ cd) (t_ 8))::m_ 10 9::S_ 11 10 b9 [.mv (t_ 0),.bin .eql [1] (t_ 11) (i_ 17)] (o_ 13 (.pick (t_ 10) (b_ cd) (t_ 12))::m_ 14 13::S_ 15 14 b9 [.mv (t_ 0),.bin .eql [1] (t_ 15) (i_ 18)] [o_ 17 (.pick (t_ 14) (b_ cd) (t_ 16)),m_ 3 17]))) (I_ 3 (G_ [o_ 18 (.build S9 [(0,(1,(b_ cd))),(1,(1,(b_ cd))),(2,(1,(b_ b9)))]),s_ 3 2 18] .ret) (G_ (m_ 20 0::C_ 21 .geq 20 2::m_ 22 21::S_ 23 22 cd [.mv (t_ 0),.bin .leq [] (t_ 23) (i_ 15)] [o_ 25 (.pick (t_ 22) (t_ 24) (b_ b9)),m_ 19 25]) (I_ 19 (G_ [o_ 26 (.build S9 [(0,(1,(b_ cd))),(1,(1,(b_ cd))),(2,(1,(b_ cd)))]),s_ 3 2 26] .ret) (G_ [m_ 28 0,Y_ 29 .eql 28 19,m_ 27 29] (I_ 27 (G_ [o_ 30 (.build S9 [(0,(1,(b_ b9))),(1,(1,(b_ cd))),(2,(1,(b_ cd)))]),s_ 3 2 30] .ret) (G_ (m_ 32 0::Y_ 33 .eql 32 20::m_ 34 33::S_ 35 34 b9 [.mv (t_ 0),.bin .eql [1] (t_ 35) (i_ 21)] [o_ 37 (.pick (t_ 34) (b_ cd) (t_ 36)),m_ 31 37]) (I_ 31 (G_ [o_ 38 (.build S9 [(0,(1,(b_ cd))),(1,(1,(b_ b9))),(2,(1,(b_ b9)))]),s_ 3 2 38] .ret) (G_ [m_ 40 0,Y_ 41 .eql 40 22,m_ 39 41] (I_ 39 (G_ [o_ 42 (.build S9 [(0,(1,(b_ b9))),(1,(1,(b_ cd))),(2,(1,(b_ b9)))]),s_ 3 2 42] .ret) .skip))))))))))) (G_ [o_ 43 (.build S9 []),s_ 3 2 43] .ret)))
def Nw:=gp 193 [.cell 2 (Z 3)] DA
def xr:aG:=(G_ [k_ 4 0] (J_ (G_ (m_ 5 0::n_ 6 5::R_ 7 0 6 1 1 [l_ 11 10,C_ 12 .lss 11 0]) (I_ 12 (J_ (V_ (m_ 13 0::n_ 14 13::fJ 15 0 14 (m_ 17 1::m_ 18 0::n_ 19 18::fJ 20 1 19 [a_ 22 1 16 17,s_ 1 22 21]))) (O_ (m_ 23 0::n_ 24 23::W_ 25 1 24 [C_ 27 .add 26 1,n_ 28 23,f_ 29 1 28,s_ 1 29 27]))) .skip)) (G_ (m_ 30 0::n_ 31 30::R_ 32 0 31 1 1 [l_ 36 35,m_ 4 36]) .ret)))
def FK:=gp 194 [.tmp 4] xr
def yM:aG:=(G_ [x_ 3 1,K_ 4 va] (J_ (G_ (W_ 5 0 3 []) (I_ 6 (O_ (m_ 7 0::W_ 8 1 3 [F_ 10 194 [t_ 7,t_ 9],f_ 11 1 3,s_ 1 11 10])) .skip)) (G_ [L_ 12 2 3,s_ 2 4 12] .ret)))
def Hm:=gp 195 [.cell 4 (Z 2)] yM
def RD:aG:=(V_ (m_ 79 0::n_ 80 79::rS 81 3 80 8 6 (fJ 85 0 84 (m_ 87 13::fJ 88 1 14 [m_ 90 9,m_ 91 9,C_ 92 .add 91 1,m_ 94 10,L_ 95 2 15,v_ 96 va 2 95,(F_ 93 167 [t_ 89,t_ 90,t_ 92],[15,96]),(F_ 97 166 [t_ 93,t_ 94,t_ 96],[81,85]),a_ 98 2 86 87,f_ 99 1 98,s_ 1 99 97]))))
def tP:aG:=(N_ 70 69 68 4 5 100 (G_ [m_ 71 69,a_ 72 2 67 69,L_ 73 2 72,K_ 14 Wu,m_ 13 71,s_ 2 14 73] (G_ (R_ 74 1 14 9 2 [L_ 78 2 77,K_ 15 va,s_ 2 15 78]) RD)))
def tQ:aG:=(N_ 46 45 44 2 3 59 (G_ [a_ 47 1 43 45,l_ 48 47,m_ 12 48] (G_ (m_ 49 12::m_ 50 2::B_ 51 .lss 49 50::m_ 52 51::S_ 53 52 cd [.mv (t_ 12),.mv (t_ 1),.bin .neq [1] (t_ 53) (t_ 54)] [o_ 56 (.pick (t_ 52) (t_ 55) (b_ b9))]) (I_ 56 (O_ [m_ 57 10,C_ 58 .add 57 1,m_ 10 58]) .skip))))
def AJ:aG:=(N_ 31 30 29 0 1 101 (G_ [a_ 32 1 28 30,l_ 33 32,m_ 8 33] (G_ (T_ 34 6 8 1 [l_ 37 36,m_ 38 1,F_ 39 162 [t_ 37,t_ 38],m_ 9 39]) (G_ [k_ 10 0] (J_ (G_ (T_ 40 6 8 1 [l_ 43 42,z_ 44 43,k_ 45 0]) (Q_ 2 tQ)) (G_ (m_ 60 0::n_ 61 60::R_ 62 3 61 8 6 (U_ 66 0 65 [k_ 69 0])) (Q_ 4 tP)))))))
def DH:aG:=(G_ [m_ 16 0,n_ 17 16,L_ 18 4 17,F_ 19 101 [t_ 18],m_ 6 19] (G_ (m_ 20 0::n_ 21 20::R_ 22 3 21 1 6 (f_ 26 2 25::U_ 27 3 26 [k_ 30 0])) (Q_ 0 AJ)))
def ND:=gp 196 [] DH
set_option maxRecDepth 100000
def ir:aG:=(J_ (G_ [m_ 7 2,m_ 8 3,B_ 9 .lss 7 8] (H_ 9 0)) (J_ (P_ 1 (V_ (m_ 14 0::m_ 15 2::m_ 16 0::m_ 17 3::Si 18 0 3 1 (l_ 21 20::Si 22 0 2 1 [l_ 25 24,a_ 26 1 14 15,s_ 1 26 21,a_ 27 1 16 17,s_ 1 27 25])))) (O_ [m_ 10 2,C_ 11 .add 10 1,m_ 12 3,C_ 13 .sub 12 1,m_ 2 11,m_ 3 13])))
def nq:aG:=(G_ [m_ 4 0,z_ 5 4,C_ 6 .sub 5 1,k_ 2 0,m_ 3 6] (Q_ 0 ir))
def xY:=gp 199 [] nq
def jJ:aG:=(G_ [M_ 4 b9] (G_ [m_ 5 0,m_ 6 1,F_ 7 246 [t_ 5,t_ 6],C_ 8 .geq 7 0,m_ 4 8] .ret))
def sx:=gp 200 [.tmp 4] jJ
def se:aG:=(G_ [M_ 3 b9] (G_ (m_ 4 0::f_ 5 2 1::U_ 6 3 5 [C_ 9 .sub 8 1,F_ 10 80 [t_ 4,(i_ 1),t_ 9],o_ 11 (.un .not (t_ 10)),m_ 3 11]) .ret))
def Bz:=gp 201 [.tmp 3] se
def vk:aG:=(G_ [x_ 2 0,x_ 3 1,k_ 4 0] (J_ (G_ (W_ 5 0 3 (m_ 7 6::S_ 8 7 cd [.cD 1 (t_ 3),.load K (t_ 8),.cD 2 (t_ 2),.cD 2 (t_ 10),.load K (t_ 11),.bin .sub [] (t_ 12) (i_ 1),.call (.func 80) [t_ 9,(i_ 0),t_ 13],.un .not (t_ 14)] [o_ 16 (.pick (t_ 7) (t_ 15) (b_ b9))])) (I_ 16 (G_ [k_ 4 3] .ret) .skip)) (G_ [k_ 4 0] .ret)))
def Ea:=gp 202 [.tmp 4] vk
def vg:aG:=(G_ [x_ 2 0,k_ 4 0] (J_ (G_ (m_ 5 1::f_ 6 2 2::W_ 7 2 6 [C_ 9 .sub 8 1,F_ 10 80 [t_ 5,(i_ 0),t_ 9],o_ 11 (.un .not (t_ 10))]) (I_ 11 (G_ [k_ 4 3] .ret) .skip)) (G_ [k_ 4 0] .ret)))
def D6:=gp 203 [.tmp 4] vg
def Cg:aG:=(N_ 9 8 7 0 1 17 (G_ [a_ 10 1 6 8,l_ 11 10,m_ 4 11] (G_ [m_ 12 4,o_ 13 (.call (t_ 12) []),m_ 5 13] (G_ [m_ 14 5,Y_ 15 .neq 14 0] (I_ 15 (G_ [m_ 16 5,m_ 2 16] .ret) .skip)))))
def Fv:aG:=(.seq (.ops [⟨(Z 2),K,(.mv (.const (dC ef 0)))⟩]) (.seq (.seq (.ops [⟨(Z 6),K,(.mv (.tmp 0))⟩,⟨(Z 7),K,(.ox (.tmp 6))⟩,⟨(Z 8),K,(.mv (.const (dC ef 0)))⟩]) (.block 0 (.loop Cg))) (.seq (.ops [⟨(Z 2),K,(.mv (.const (dC ef 0)))⟩]) .ret)))
def Qe:=gp 204 [.tmp 2] Fv
def sf:aG:=(G_ [k_ 2 0] (G_ [L_ 3 7 0,f_ 4 2 1,L_ 5 2 4,F_ 6 202 [t_ 3,t_ 5],m_ 2 6] .ret))
def BA:=gp 205 [.tmp 2] sf
def sg:aG:=(G_ [k_ 2 0] (G_ [L_ 3 7 0,f_ 4 4 1,L_ 5 2 4,F_ 6 202 [t_ 3,t_ 5],m_ 2 6] .ret))
def BB:=gp 206 [.tmp 2] sg
def p_:aG:=(N_ 37 36 35 1 2 46 (G_ [a_ 38 2 34 36,L_ 39 2 38,K_ 5 va,s_ 2 5 39] (G_ [L_ 40 7 2,L_ 41 2 5,F_ 42 202 [t_ 40,t_ 41],m_ 6 42] (G_ [m_ 43 6,Y_ 44 .neq 43 0] (I_ 44 (G_ [m_ 45 6,m_ 3 45] .ret) .skip)))))
def si:aG:=(G_ [k_ 3 0] (J_ (P_ 0 (G_ [l_ 8 0,o_ 9 (.un .not (t_ 8)),m_ 7 9] (I_ 7 (G_ [k_ 3 0] .ret) (G_ (W_ 11 6 1 (f_ 13 0 2::U_ 14 1 13 [C_ 17 .sub 16 1,F_ 18 80 [t_ 12,(i_ 0),t_ 17],o_ 19 (.un .not (t_ 18)),m_ 10 19])) (I_ 10 (G_ [k_ 3 3] .ret) (J_ (V_ (fJ 21 7 1 (z_ 23 22::f_ 24 0 2::fJ 25 1 24 (fJ 27 6 1 (a_ 29 4 26 28::fJ 30 1 29 [X_ 32 .neq 23 31,m_ 20 32]))))) (I_ 20 (G_ [k_ 3 9] .ret) .skip))))))) (J_ (G_ (U_ 33 7 1 [k_ 36 0]) (Q_ 1 p_)) (G_ [k_ 3 0] .ret))))
def BC:=gp 207 [.tmp 3] si
def xp:aG:=(G_ [o_ 4 (.mv (.const (.int .u64 0))),o_ 5 (.mv (.const (.int .u64 0)))] (G_ [m_ 14 0,o_ 15 (.bin .and [] (t_ 14) (.const (.int .u64 4294967295))),m_ 6 15] (G_ [m_ 16 0,o_ 17 (.bin .shr [] (t_ 16) (.const (.int .u64 32))),m_ 7 17] (G_ [m_ 18 1,o_ 19 (.bin .and [] (t_ 18) (.const (.int .u64 4294967295))),m_ 8 19] (G_ [m_ 20 1,o_ 21 (.bin .shr [] (t_ 20) (.const (.int .u64 32))),m_ 9 21] (G_ [m_ 22 6,m_ 23 8,B_ 24 .mul 22 23,m_ 10 24] (G_ [m_ 25 7,m_ 26 8,B_ 27 .mul 25 26,m_ 28 10,o_ 29 (.bin .shr [] (t_ 28) (.const (.int .u64 32))),B_ 30 .add 27 29,m_ 11 30] (G_ [m_ 31 11,o_ 32 (.bin .and [] (t_ 31) (.const (.int .u64 4294967295))),m_ 12 32] (G_ [m_ 33 11,o_ 34 (.bin .shr [] (t_ 33) (.const (.int .u64 32))),m_ 13 34] (G_ [m_ 35 12,m_ 36 6,m_ 37 9,B_ 38 .mul 36 37,B_ 39 .add 35 38,m_ 12 39] (G_ [m_ 40 7,m_ 41 9,B_ 42 .mul 40 41,m_ 43 13,B_ 44 .add 42 43,m_ 45 12,o_ 46 (.bin .shr [] (t_ 45) (.const (.int .u64 32))),B_ 47 .add 44 46,m_ 4 47] (G_ [m_ 48 0,m_ 49 1,B_ 50 .mul 48 49,m_ 5 50] .ret))))))))))))
def FH:=gp 209 [(.tmp 4),(.tmp 5)] xp
def jN:aG:=(J_ (G_ [m_ 7 3,C_ 8 .geq 7 0] (H_ 8 0)) (J_ (P_ 1 (G_ [m_ 11 0,m_ 12 3,l_ 13 1,m_ 14 3,a_ 15 1 13 14,l_ 16 15,o_ 17 (.call (t_ 11) [t_ 12,t_ 16]),o_ 18 (.un .not (t_ 17))] (I_ 18 .ret .skip))) (O_ [m_ 9 3,C_ 10 .sub 9 1,m_ 3 10])))
def kz:aG:=(G_ [l_ 4 1,z_ 5 4,C_ 6 .sub 5 1,m_ 3 6] (Q_ 0 jN))
def uI:=gp 210 [] kz
def DP:aG:=(J_ (G_ (m_ 7 2::C_ 8 .geq 7 0::m_ 9 8::S_ 10 9 cd [.mv (t_ 2),.mv (t_ 1),.bin .neq [1] (t_ 10) (t_ 11)] [o_ 13 (.pick (t_ 9) (t_ 12) (b_ b9))]) (H_ 13 0)) (P_ 1 (O_ (T_ 14 0 2 1 [l_ 17 16,m_ 2 17]))))
def Im:aG:=(G_ [M_ 6 b9] (J_ (Q_ 0 DP) (G_ [m_ 18 1,m_ 19 2,X_ 20 .eql 18 19,m_ 6 20] .ret)))
def Ta:=gp 211 [.tmp 6] Im
def tq:aG:=(y_ 11 5 14 0 1 15 [m_ 12 0,z_ 13 12] (J_ (V_ (Si 17 0 5 2 (L_ 20 2 19::Si 21 1 5 2 [L_ 24 2 23,o_ 25 (.bin .neq [9,0,1] (t_ 20) (t_ 24))]))) (I_ 25 (G_ [M_ 4 b9] .ret) .skip)))
def vH:aG:=(G_ [M_ 4 b9] (J_ (G_ [m_ 6 0,z_ 7 6,m_ 8 1,z_ 9 8,X_ 10 .neq 7 9] (I_ 10 (G_ [M_ 4 b9] .ret) .skip)) (J_ (G_ [k_ 5 0] (Q_ 0 tq)) (G_ [M_ 4 cd] .ret))))
def Ew:=gp 212 [.tmp 4] vH
def xy:aG:=(G_ [x_ 2 0,x_ 3 1,M_ 4 b9] (G_ (W_ 5 0 2 (W_ 7 0 3 (X_ 9 .eql 6 8::m_ 10 9::S_ 11 10 cd [.cD 1 (t_ 2),.load K (t_ 11),.cD 1 (t_ 3),.load K (t_ 13),.bin .eql [1] (t_ 12) (t_ 14)] (o_ 16 (.pick (t_ 10) (t_ 15) (b_ b9))::m_ 17 16::S_ 18 17 cd [.cD 2 (t_ 2),.load (Z 2) (t_ 18),.cD 2 (t_ 3),.load (Z 2) (t_ 20),.bin .eql [9,0,1] (t_ 19) (t_ 21)] (o_ 23 (.pick (t_ 17) (t_ 22) (b_ b9))::m_ 24 23::S_ 25 24 cd [.cD 4 (t_ 2),.load (Z 2) (t_ 25),.cD 4 (t_ 3),.load (Z 2) (t_ 27),.bin .eql [9,0,1] (t_ 26) (t_ 28)] (o_ 30 (.pick (t_ 24) (t_ 29) (b_ b9))::m_ 31 30::S_ 32 31 cd [.cD 6 (t_ 2),.load K (t_ 32),.cD 6 (t_ 3),.load K (t_ 34),.bin .eql [1] (t_ 33) (t_ 35)] (o_ 37 (.pick (t_ 31) (t_ 36) (b_ b9))::m_ 38 37::S_ 39 38 cd [.cD 7 (t_ 2),.load K (t_ 39),.cD 7 (t_ 3),.load K (t_ 41),.call (.func 212) [t_ 40,t_ 42]] [o_ 44 (.pick (t_ 38) (t_ 43) (b_ b9)),m_ 4 44]))))))) .ret))
def FQ:=gp 213 [.tmp 4] xy
def ka:aG:=(N_ 9 8 7 0 1 18 (G_ [m_ 10 8,m_ 5 10] (G_ (m_ 11 1::T_ 12 0 5 1 [l_ 15 14,o_ 16 (.call (t_ 11) [t_ 15])]) (I_ 16 (G_ [m_ 17 5,m_ 4 17] .ret) .skip))))
def kJ:aG:=(.seq (.ops [⟨(Z 4),K,(.mv (.const (dC ef 0)))⟩]) (.seq (.seq (.ops [⟨(Z 6),K,(.mv (.tmp 0))⟩,⟨(Z 7),K,(.ox (.tmp 6))⟩,⟨(Z 8),K,(.mv (.const (dC ef 0)))⟩]) (.block 0 (.loop ka))) (.seq (.ops [⟨(Z 4),K,(.mv (.const (dC ef (bL 0))))⟩]) .ret)))
def vK:=gp 246 [.tmp 4] kJ
set_option maxRecDepth 100000
end Go.Proofs.YtdhnndleffachaaGreatDoor
