/- Parts of the proof. -/
import Derived.Test.YtdhnndleffachaaGreatDoorP03
import Derived.Test.YtdhnndleffachaaGreatDoorP04
open Go renaming Value->aa,stepG->cf
open Int renaming toNat->u1
open Nat renaming beq->ar,le_add_right->s9,sub_self->r6
open Ne renaming symm->a7
open Option.some renaming inj->bI
open Option renaming some->Z,none->K
open Bool renaming false->b9,true->cd
open List renaming length->Y,append_of_mem->K1,cons_append->zb,drop_append->nV,drop_length->cG,filterMap_append->Eg,filterMap_cons->H3,filter_append->e6,filter_cons_of_neg->bO,filter_cons_of_pos->db,filter_eq_nil_iff->ns,find?_eq_none->oc,foldl_append->lv,getElem?_mapIdx->bn,getElem?_range->lN,getElem?_reverse->ur,getElem?_zip_eq_some->fi,getElem_inj->ib,length->dk,length_cons->kb,length_drop->sn,length_filterMap_le->rf,length_filter_lt_length_iff_exists->tx,length_set->lj,length_take->ml,map_append->aW,map_congr_left->bf,map_set->dr,mem_append_left->ba,mem_append_right->aT,mem_cons->bd,of_mem_zip->b8,pairwise_cons->ob,pairwise_iff_getElem->gY,pairwise_map->gw,prefix_append->KE,prefix_refl->O6,range->aA,range_succ->so,replicate->an,take_append->o9,take_zero->oj
open Go.Value renaming slice->c6,bool->dd,pointer->dB,int->dC,string->eT,agg->eU,bool->eX,int->aL,slice->bo,string->eK
open Go.IntKind renaming i64->ef,i64->c9
open Or renaming inl->fc,inr->ft
set_option linter.all false
set_option maxHeartbeats 1000000
namespace Go.AI.Edge
variable{p:Nat}
def N5(b:List (List Int))(x:Nat):Prop:=∀S:Nat->Prop,S 0->(∀a d,S a->b[a]?=Z d->∀t∈d,S t.toNat)->S x
def N5.zero(h:List (List Int)):N5 h 0:=λ_ h _=>h
def N5.step{b:List (List Int)}{a:Nat}{ts:List Int}(h:N5 b a)(m:b[a]?=Z ts){t:Int}(o:t∈ts):N5 b t.toNat:=λS b d=>d a ts (h S b d) m t o
def N8(a:List (List Int)):List (List Nat):=a.map (·.map u1)
def Vf{a:List (List Int)}{p x:Nat}(h:x∈Dfs.row (N8 a) p):∃d t,a[p]?=Z d/\t∈d/\x=t.toNat:=by unfold Dfs.row N8 at h;rw[gu] at h;rcases m:a[p]? with _|d;rw[m] at h;simp at h;rw[m] at h;simp at h;have⟨t,o,e⟩:=h;exact⟨d,t,Q,o,e.symm⟩
def adn{b:List (List Int)}{a:List Int}{t:Int}(d:b[p]?=Z a)(m:t∈a):t.toNat∈Dfs.row (N8 b) p:=by unfold Dfs.row N8;rw[gu,d];simp;exact⟨t,m,Q⟩
def ag2{tss:List (List Int)}(d:0<Y tss)(f:∀O∈tss,∀t∈O,t.toNat<Y tss)(x:Nat):x∈Dfs.uD (N8 tss) (Y tss)↔N5 tss x:=by
 obtain⟨L,u,⟨z,z⟩,b,a⟩:=Dfs.JK (tos:=N8 tss) d (λW t D=>by obtain⟨O,u,s,o,rfl⟩:=Vf D;exact f O (cK s) u o);constructor
 .
  intro l;have⟨d,m,e⟩:=K1 l;have g:∀(n:Nat)(d m:List Nat)(x:Nat),Y m<=n->Dfs.uD (N8 tss) (Y tss)=d++x::m->N5 tss x:=by
   intro n;induction n with
   |zero=>
    intro d m x H e;have:m=[]:=F7 J;subst this;rw[z] at e;have:=(List.append_inj' e Q).2;cases this;exact N5.zero _
   |succ n u=>
    intro d m x H e;by_cases C:x=0;subst C;exact N5.zero _
    .have⟨p,F,I,U,i,v⟩:=a x (by rw[e];simp) C;have M:d++x::m=I++x::U:=by rw[<-e,<-i]
     have E:(d++x::m).Nodup:=by rw[<-e];exact L
     have h:Y d=Y I:=by
      have f:(d++x::m)[Y d]?=Z x:=ag
      have V:(d++x::m)[Y I]?=Z x:=by rw[M];simp
      have s:=(cR.mp f);have o:=(cR.mp V);have⟨q,n⟩:=s;have⟨C,N⟩:=o;exact(ib E).1 (n.trans N.symm)
     have X:=(List.append_inj M h).2;cases X;have⟨a,N,G⟩:=K1 v;have L:=u (d++x::a) N p (by rw[G] at H;simp at H;omega) (by rw[e,G];simp);obtain⟨O,t,s,o,rfl⟩:=Vf F;exact L.step s o
  exact g (Y m) d m x (fE _) e
 intro h;refine h (λy=>y∈Dfs.uD (N8 tss) (Y tss)) (by rw[z];simp) (λa O y m t D=>b a y _ (adn m D))
end Go.AI.Edge
namespace Go.Proofs.YtdhnndleffachaaGreatDoor
open Go.AI
variable{B W:SV}{k:List GB}{h:aB}{l:List (Int×(Bool×Int))}{v:aa}{xs:List Int}
def RnC:List Nat:=[10,12,45,46,47,48,49,50,51,52,53,54,55,56,57,58,59]
def ChD:List Nat:=[54,55,56,57,58,59,60,61,62,63]
def ChA:List Nat:=[64,65,66,67,68,69,70,71,72,73,74,75,76,77]
def Co(N a:Nat)(x:Nat):Prop:=x=N\/x=a
section
variable{d aF:Nat}{c a:Nat->Nat}{B:SV}{b:List XR}{N e:Nat}
def NaL:List Nat:=[12,79,80,81,82,83,84,85,86]
def NpL:List Nat:=[8,52,53,54,55,56,57,58,59,60]
end
section
variable{d aF:Nat}{c a:Nat->Nat}{B:SV}{b:List XR}{N e:Nat}
def NlL:List Nat:=[10,12,64,65,66,67,68,69,70,71,72,73,74,75,76,77,78,79,80,81,82,83,84,85,86,87,88,89,90,91,92,93,94]
end
section
variable{d aF:Nat}{c a:Nat->Nat}{B:SV}{b:List XR}{N e:Nat}
def WaL:List Nat:=[21,22,164,165,166,167,168,169,170,171,172,173,174,175,176]
def WrL:List Nat:=[17,18,129,130,131,132,133,134,135,136,137,138,139,140,141]
end
section
variable{d aF:Nat}{c a:Nat->Nat}{B:SV}{b:List XR}{N e:Nat}
def WpL:List Nat:=[15,16,17,18,112,113,114,115,116,117,118,119,120,121,122,123,124,125,126,127,128,129,130,131,132,133,134,135,136,137,138,139,140,141,142]
end
section
variable{d aF:Nat}{c a:Nat->Nat}{B:SV}{b:List XR}{N e:Nat}
def WlD:List Nat:=[151,152,153,154,155,156,157,158,159,160]
def WlL:List Nat:=[19,20,21,22,146,147,148,149,150,151,152,153,154,155,156,157,158,159,160,161,162,163,164,165,166,167,168,169,170,171,172,173,174,175,176,177,178,179,180,181,182,183,184,185,186,187,188,189,190]
end
section
variable{d aF:Nat}{c a:Nat->Nat}{B:SV}{b:List XR}{N e:Nat}
def WbD:List Nat:=[191,192,193,194,195,196,197,198,199,200,201]
end
def aio(k:List GB):Prop:=Y k<=1000/\∀b∈k,Y b.aP<=1000000/\Y b.list<=1000000
def gS(c:List aa)(g:GG):Prop:=∃I:SV,c=[eT g.name,dC ef g.size,I.v]
section
variable{f:GF}{a:List XR}
def alD(F:gU f){i:Nat}{l:List Int}(h:(Edge.dm (cx f.blocks))[i]?=Z l):Y l<=80:=by
 have a:=Edge.zc (n:=Y (cx f.blocks)) (tos:=cx f.blocks) (λs d=>by obtain⟨b,o,rfl⟩:=iT.1 d;rcases(F.body.ends b o).kind with⟨_,e⟩|⟨_,t,e⟩|⟨_,t,u,e,_⟩<;>rw[e]<;>simp) i (Y (cx f.blocks));have m:((Edge.upto (Y (cx f.blocks)) (cx f.blocks) (Y (cx f.blocks)))[i]?).getD []=l:=by show((Edge.dm (cx f.blocks))[i]?).getD []=l;rw[h];rfl
 rw[m] at a;have C:Y (cx f.blocks)=Y f.blocks:=by simp[cx]
 have:=F.head.blocks;omega
def af6(F:gU f):∀b∈f.blocks,InB f.aF.toNat b:=by
 intro b d;have⟨i,G⟩:=iF d;have B:=F.body.Ke i b G;have s:=F.sm b d;have G:=F.head.aF;have G:=F.head.params;have E:=F.body.ends b d;refine⟨by have:=s.ph;have:=jz d;have:=F.head.many;omega,by have:=jz d;have:=F.head.many;omega,?_,λp C=>?_,λx H=>?_,λh=>?_⟩
 rcases E.kind with⟨_,h⟩|⟨_,t,h⟩|⟨_,t,u,h,_⟩<;>rw[h]<;>simp;have⟨_,l,D,o⟩:=B.aP p C;have:=o.dst;unfold Bk at this;have:=o.len;have:=alD F D;exact⟨J,J,λv m=>Hg (o.row v m)⟩
 .have I:=B.list x H;have:=(u3 I).2;refine⟨?_,Hg I.a,Hg I.b,J,λv m=>Hg (Ur I v m)⟩;rcases aaC I with h|h
  omega;unfold Bk at h;omega
 have:=E.on h;omega
end
structure XG where
 name:ByteArray
 size:Int
 I:SV
def EC:ly XG:=⟨λx=>[eT x.name,dC ef x.size,x.I.v],3,λ_=>rfl,ai,λ_=>rfl⟩
@[simp] def au_:EC.sz=3:=rfl
@[simp] def arb(x:XG):EC.enc x=[eT x.name,dC ef x.size,x.I.v]:=rfl
structure XF where
 name:ByteArray
 params:Int
 aF:Int
 B:SV
def wU:ly XF:=⟨λx=>aC x.name x.params x.aF x.B,4,λ_=>rfl,ai,λ_=>rfl⟩
@[simp] def ave:wU.sz=4:=rfl
@[simp] def arn(x:XF):wU.enc x=[eT x.name,dC ef x.params,dC ef x.aF,x.B.v]:=rfl
def akB(h:aB)(y:XG)(g:GG):Prop:=y.name=g.name/\y.size=g.size/\ae nR 1 h y.I.v g.init
def arB{b:List GG}(s:ae (gR h) 3 h v b):∃B:List XG,Y B=Y b/\bj EC h v B/\∀(i:Nat)(y:XG)(g:GG),B[i]?=Z y->b[i]?=Z g->akB h y g:=
 ae.pick (E:=EC) (Q1:=akB h) s (λc x ⟨I,e,d⟩=>⟨⟨x.name,x.size,I⟩,e,Q,Q,d⟩)
def ZW(h:aB)(y:XF)(f:GF):Prop:=y.name=f.name/\y.params=f.params/\y.aF=f.aF/\mm h y.B f.blocks
def ary{W:List GF}(s:ae (fR h) 4 h v W):∃p:List XF,Y p=Y W/\bj wU h v p/\∀(i:Nat)(y:XF)(f:GF),p[i]?=Z y->W[i]?=Z f->ZW h y f:=
 ae.pick (E:=wU) (Q1:=ZW h) s (λc x ⟨B,e,d⟩=>⟨⟨x.name,x.params,x.aF,B⟩,e,Q,Q,Q,d⟩)
def SN(a:List XG)(b:List GG):Prop:=Y a=Y b/\∀(i:Nat)(y:XG)(g:GG),a[i]?=Z y->b[i]?=Z g->y.name=g.name/\y.size=g.size
def aO:List Int->Int->Int
 |[],_=> -1
 |x::xs,t=>if x=t then 0 else if aO xs t<0 then-1 else aO xs t+1
def pG:∀ {xs:List Int} {t:Int},t∉xs->aO xs t= -1
 |[],_,_=>rfl
 |x::xs,t,h=>by simp only[bd,not_or] at h;unfold aO;rw[bM (λe=>h.1 e.symm),pG h.2];rfl
def zj:∀ {xs:List Int} {t:Int} {j:Nat},xs[j]?=Z t->(∀i,i<j->xs[i]? ≠Z t)->aO xs t=j
 |[],_,_,h,_=>by simp at h
 |x::xs,t,0,h,_=>by simp at h;subst h;simp[aO]
 |x::xs,t,j+1,h,d=>by have j:=d 0 J;simp at h j;have:=zj (xs:=xs) (t:=t) h (λi m=>by have:=d (i+1) J;simpa using this);unfold aO;rw[bM j,this,bM J];omega
def aqu(h:aB)(W:SV)(t:Int)(xs:List Int)(m:Nat)(e:Env)(d:aB):Prop:=
 ∃j:Nat,m=Y xs-j/\j<=Y xs/\bX e 0=W.v/\bz e 1 t/\bz e 5 j/\(∀i,i<j->xs[i]? ≠Z t)/\d=h
def BT(z:bj encI h W.v xs)(b:Y xs<1000000)(t:Int):aY FF 104 [W.v,dC ef t] h (λv p=>p=h/\v=dd (decide (t∈xs))):=by
 have o:W.l=Y xs:=by have⟨a,L,e,_⟩:=z;simp at e;exact e.2.1
 refine aY.of FL ?_;unfold xt;simp[o];refine aN.loop (aqu h W t xs) ?_ (n:=Y xs) ⟨0,Q,J,av o,ag,ag,λi u=>J,Q⟩;rintro m e H⟨j,rfl,g,d,E,H,M,rfl⟩;unfold uE;by_cases G:j<Y xs
 .have b:=bZ ((j:Int)+1) J J;have⟨x,I⟩:=aR xs j G;have⟨y,O,T,C,_,_,U⟩:=z.read I;have D:=U 0 1 ai;simp[-ay] at D C;simp at d;rw[C.1,o] at d;by_cases z:x=t
  subst z;have s:=cK I;simp[d,E,H,G,D,s,-ay]
  .have V:(x==t)=b9:=by simp[z]
   simp[d,E,H,G,D,V,b,-ay];refine⟨Y xs-(j+1),J,j+1,Q,J,by simp[d,C.1,o],av E,ag,λi u=>?_,Q⟩;by_cases p:i=j;subst p;rw[I];simp[z];exact M i J
 .have:j=Y xs:=J
  subst this;have s:t∉xs:=λs=>by have⟨i,u⟩:=iF s;exact M i (cR.mp u).1 u
  simp at d;rw[o] at d;simp[d,H,s]
def pf(M:bj encI h W.v xs)(b:Y xs<1000000)(t:Int):aY FF 92 [W.v,dC ef t] h (λv p=>p=h/\v=dC ef (aO xs t)):=by
 have o:W.l=Y xs:=by have⟨a,L,e,_⟩:=M;simp at e;exact e.2.1
 refine aY.of Da ?_;unfold uj;simp[o];refine aN.loop (aqu h W t xs) ?_ (n:=Y xs) ⟨0,Q,J,av o,ag,ag,λi s=>J,Q⟩;rintro m e H⟨j,rfl,g,d,D,G,I,rfl⟩;unfold qK;by_cases E:j<Y xs
 .have b:=bZ ((j:Int)+1) J J;have⟨x,H⟩:=aR xs j E;have⟨y,O,T,u,_,_,U⟩:=M.read H;have C:=U 0 1 ai;simp[-ay] at C u;simp at d;rw[u.1,o] at d;by_cases M:x=t
  subst M;simp[d,D,G,E,C,-ay];exact(zj H I).symm
  .have V:(x==t)=b9:=by simp[M]
   simp[d,D,G,E,C,V,b,-ay];refine⟨Y xs-(j+1),J,j+1,Q,J,by simp[d,u.1,o],av D,ag,λi s=>?_,Q⟩;by_cases p:i=j;subst p;rw[H];simp[M];exact I i J
 .have:j=Y xs:=J
  subst this;have z:t∉xs:=λz=>by have⟨i,s⟩:=iF z;exact I i (cR.mp s).1 s
  simp at d;rw[o] at d;simp[d,G];exact(pG z).symm
def jO(k:List GB)(j:Nat)(b:Int):List Int:=((aA j).filter λi=>decide (∃x,k[i]?=Z x/\b∈x.to)).map λi:Nat=>(i:Int)
def aI(k:List GB)(b:Int):List Int:=jO k (Y k) b
def axm(c:aB)(S:Nat)(B:SV)(k:List GB)(b:Int)(m:Nat)(e:Env)(a:aB):Prop:=
 ∃(j:Nat) (W:SV),m=Y k-j/\j<=Y k/\bz e 1 b/\cg e 2 S/\bX e 5=W.v/\bz e 6 j/\az aV c a/\bx encI c.ax a W.v (jO k j b)
def Bn(k:List GB)(j:Nat)(b:Int):Y (jO k j b)<=j:=by unfold jO;rw[yd];exact wV (NN _ _) ag
def tu(M:cy h){name:ByteArray}{p r:Int}(I:mm h B k)(m:Y k<100000)(m:∀x∈k,Y x.to<1000000)(b:Int):aY FF 63 [eU ⟨aC name p r B⟩,dC ef b] h (λv a=>az aV h a/\∃L:SV,v=L.v/\bx encI h.ax a L.v (aI k b)):=by
 have i:=ae.len I;refine aY.of C4 ?_;unfold uc;simp[aC];refine aN.cut (λj=>az aV h j/\c_ j h.ax (aC name p r B)) ⟨(az.refl M).new _ _,0,by simp[aC]⟩ ?_;rintro j⟨u,D,D⟩;refine aN.loop (axm j h.ax B k b) ?_ (n:=Y k) ⟨0,cU,Q,J,ag,ag,by simp[cU],ag,.refl u.ok,fc ⟨Q,Q⟩⟩;rintro j l a⟨j,W,rfl,c,c,H,e,C,g,d⟩;have f:=g.ok;have s:=g.get u.ok D;simp[aC] at s;rw[i] at s;unfold qH;by_cases D:j<Y k
 .have i:=bZ ((j:Int)+1) J J;have⟨x,G⟩:=aR k j D;obtain⟨n,n,n,n,_,_,⟨P,L,T,rfl,L,L,o⟩,_,U⟩:=ae.later M I G;have I:=u.trans g;have L:=U a I 5 1 ai;simp[-ay] at L;rw[n] at s;have U:=(LR o).cr M I;have I:jO k (j+1) b=jO k j b++(if b∈x.to then [(j:Int)] else []):=by unfold jO;rw[so,e6,aW];congr 1;by_cases o:b∈x.to;simp[G,o];simp[G,o]
  simp[c,H,C,s,aD s,D,L,-ay];refine bm.call (V:=λv M=>M=a/\v=dd (decide (b∈x.to))) (ak (BT U (m x (cK G)) b)) ?_;rintro _ M⟨M,rfl⟩;rw[M];by_cases o:b∈x.to;rw[bH o] at I;simp[o,e,C];have x:=aZ f [dC ef j] 0;have M:=d.grow f x aj;have f:bj encI (aM a [dC ef j] 0) (c6 (Z ⟨a.ax,0,K⟩) 1 1) [(j:Int)]:=dx (E:=encI) (x:=(j:Int)) (bY _ _ _);have G:=Bn k j b;have b:=g.ax;have b:(aM a [dC ef j] 0).ax=a.ax+1:=Q;obtain⟨a,a,b,a,G,_⟩:=fI (bytes:=8) x.ok (z:=[dC ef 0]) rfl M f J ai J;obtain⟨f,rfl⟩:=bx.Fj a;refine df (ak b) ?_;simp[C,i];refine⟨Y k-(j+1),J,j+1,f,Q,D,av c,av H,ag,ag,(g.trans x).trans' G aj (λy y l=>aw (d.of l)),by rw[I];exact a⟩
  rw[bM o,ye] at I;simp[o,C,i];exact⟨Y k-(j+1),J,j+1,W,Q,D,av c,av H,av e,ag,g,by rw[I];exact d⟩
 .have:j=Y k:=J
  subst this;simp[H,e,C,s];exact⟨u.trans g,W,ag,bx.low (E:=encI) d u.ax⟩
def dJ(k:List GB)(b:Int)(row:List (Bool×Int)):List (Int×(Bool×Int)):=(aI k b).zip row
def EdI(c:aB)(X:Nat)(W:SV)(a:List Int)(row:List (Bool×Int))(m:Nat)(e:Env)(b:aB):Prop:=
 ∃(j:Nat) (L:SV),m=Y a-j/\j<=Y a/\cg e 5 X/\bX e 7=W.v/\bX e 8=L.v/\bz e 9 j/\az aV c b/\bx fG c.ax b L.v ((a.zip row).take j)
def vM(F:cy h){name:ByteArray}{p r dst:Int}{B A:SV}{row:List (Bool×Int)}(l:mm h B k)(N:ae vR 2 h A.v row)(U:Y k<100000)(T:∀x∈k,Y x.to<1000000)(b:Int)(g:Y (aI k b)<=Y row):aY FF 91 [eU ⟨aC name p r B⟩,dC ef b,eU ⟨[dC ef dst,A.v]⟩] h (λv n=>az aV h n/\∃L:SV,v=L.v/\bx fG h.ax n L.v (dJ k b row)):=by
 have c:=ae.len N;have y:¬h.ax=h.ax+1:=J
 refine aY.of C6 ?_;unfold ue;simp[aC,y];refine bm.cut (λu=>az aV h u/\c_ u (h.ax+1) [dC ef dst,A.v]) ⟨((az.refl F).new _ _).new _ _,0,ag⟩ ?_;rintro u⟨G,y,V⟩;refine bm.call (V:=λv n=>az aV u n/\∃L:SV,v=L.v/\bx encI u.ax n L.v (aI k b)) (by simpa [aC] using tu G.ok (name:=name) (p:=p) (r:=r) (l.mono F G) U T b) ?_;rintro _ m⟨u,W,rfl,T⟩;have f:=G.trans u;have l:=T.sl;have t:=u.get G.ok V;have q:W.l=Y (aI k b):=by have⟨a,I,e,_⟩:=id l;simp at e;exact e.2.1
 have M:=Bn k (Y k) b;change (Y (aI k b))<=Y k at M;simp;refine aN.loop (EdI m (h.ax+1) W (aI k b) row) ?_ (n:=Y (aI k b)) ⟨0,cU,Q,J,ag,ag,by simp[cU],ag,.refl u.ok,fc ⟨Q,Q⟩⟩;rintro m e n⟨j,L,rfl,S,E,o,m,V,g,d⟩;have D:=g.ok;have y:=f.trans g;have s:=g.get u.ok t;simp at s;rw[c] at s;unfold qI;by_cases M:j<Y (aI k b)
 .have T:=bZ ((j:Int)+1) J J;have⟨x,X⟩:=aR (aI k b) j M;have⟨v,c⟩:=aR row j;obtain⟨i,i,O,I,_,⟨U,z,G,a,H⟩,C⟩:=(l.cr u.ok g).read X;obtain⟨u,A,A,S,_,_,rfl,w,t⟩:=ae.later F N c;have i:=C 0 1 ai;have u:=t n y 0 2 ai;simp[-ay] at i u I;simp at o;rw[I.1] at o;rw[S] at s;have G:j<Y row:=J
  have t:=D.bU s;have C:=D.bU H;have F:=y.bU w;simp[E,o,m,V,q,M,i,u,s,aD s,G,t,C,F,aK,-ay];have H:=bk D;have P:(tick n).ax=n.ax:=Q;have i:=d.grow D H aj;rw[<-P];generalize tick n=h3 at*;have U:=aZ H.ok (fG.enc (x,v)) 0;have A:=i.grow H.ok U aj;have P:bj fG (aM h3 (fG.enc (x,v)) 0) (c6 (Z ⟨h3.ax,0,K⟩) 1 1) [(x,v)]:=dx (bY _ _ _);have n:=g.ax;have N:(aM h3 (fG.enc (x,v)) 0).ax=h3.ax+1:=Q;have N:Y (((aI k b).zip row).take j)<=j:=by rw[ml];omega
  obtain⟨S,u,t,C,u,_⟩:=fI (bytes:=24) U.ok (z:=[dC ef 0,dd b9,dC ef 0]) rfl A P J ai J;obtain⟨F,rfl⟩:=bx.Fj C;refine kW (ak t) ?_;simp[V,T];refine⟨Y (aI k b)-(j+1),J,j+1,F,Q,M,av E,by simp[o,I],ag,ag,((g.trans H).trans U).trans' u aj (λt P e=>aw (d.of e)),?_⟩;have U:((aI k b).zip row)[j]?=Z (x,v):=by rw[fi];exact⟨X,c⟩
  rw[mw,U];exact C
 .have:j=Y (aI k b):=J
  subst this;rw[nz (by simp;omega)] at d;simp at o;rw[q] at o;simp[o,m,V];exact⟨y,L,ag,bx.low (E:=fG) d f.ax⟩
def fw(l:List (Int×(Bool×Int)))(b:Int):Option (Bool×Int):=(l.find? λx=>x.1==b).map (·.2)
def fZ(l:List (Int×(Bool×Int)))(n:Nat):List (Bool×Int):=(aA n).filterMap λb:Nat=>fw l b
def MC(l:List (Int×(Bool×Int)))(n:Nat):fZ l (n+1)=fZ l n++(fw l n).toList:=by unfold fZ;rw[so,Eg];cases h:fw l n<;>simp[h]
def HZ(l:List (Int×(Bool×Int)))(n:Nat):Y (fZ l n)<=n:=by unfold fZ;exact wV (rf _ _) ag
def axC(x:aB)(W:SV)(l:List (Int×(Bool×Int)))(L:SV)(k b:Nat)(m:Nat)(e:Env)(i:aB):Prop:=
 ∃j:Nat,m=Y l-j/\j<=Y l/\bX e 0=W.v/\bz e 1 k/\bX e 5=L.v/\bz e 6 b/\bz e 7 j/\i=x/\∀i x,i<j->l[i]?=Z x->x.1≠b
def TR{b:Int}(h:∀(i:Nat)(x:Int×(Bool×Int)),l[i]?=Z x->x.1≠b):fw l b=K:=by unfold fw;rw[oc.2 (λx m=>by have⟨i,d⟩:=iF m;simpa using h i x d)];rfl
def afd:∀ {l:List (Int×(Bool×Int))} {b:Int} {j:Nat} {x:Int×(Bool×Int)},l[j]?=Z x->x.1=b->(∀i y,i<j->l[i]?=Z y->y.1≠b)->fw l b=Z x.2
 |[],_,_,_,h,_,_=>by simp at h
 |y::l,b,0,x,h,e,_=>by simp at h;subst h;simp[fw,e]
 |y::l,b,j+1,x,h,e,d=>by
  have x:=d 0 y J rfl;have:=afd (l:=l) (b:=b) (j:=j) (ak h) e (λi z s o=>d (i+1) z J (ak o));unfold fw at this⊢;have m:(y.1==b)=b9:=ak x
  rw[List.find?_cons,m];exact this
def adm{c:aB}(q:cy c){W L:SV}{o:List (Bool×Int)}{p k b:Nat}(z:bj fG c W.v l)(hl:Y l<1000000)(hn:p<=c.ax)(H:bx cH p c L.v o)(oq:Y o<1000000){e:Env}{y:bJ->Env->aB->Prop}(F:bX e 0=W.v)(O:bz e 1 k)(S:bX e 5=L.v)(T:bz e 6 b)(N:bz e 7 0)(C:∀D a (f:SV),bX D 0=W.v->bz D 1 k->bX D 5=f.v->bz D 6 b->az (bD L.v) c a->bx cH p a f.v (o++(fw l b).toList)->y (.exit 2) D a):aN FF (.loop nh) e c y:=by
 have s:W.l=Y l:=by have⟨i,x,e,_⟩:=id z;simp at e;exact e.2.1
 refine aN.loop (axC c W l L k b) ?_ (n:=Y l) ⟨0,Q,J,F,O,S,T,N,Q,λi x X=>J⟩;rintro m' D a⟨j,rfl,hj,d,h,n,u,U,rfl,r⟩;unfold nh;by_cases I:j<Y l
 .have B:=bZ ((j:Int)+1) J J;have⟨x,E⟩:=aR l j I;have⟨bW,Rp,Ql,G,_,⟨cW,roW,oW,stW,hWb⟩,w⟩:=z.read E;have V:=w 0 1 ai;have v:=w 1 2 ai;simp[-ay] at V v G;simp at d;rw[G.1,s] at d;by_cases m:x.1=b
  .have M:=afd E m r;simp[d,n,u,U,I,V,v,m,-ay];have g:=aZ q (cH.enc x.2) 0;have P:=H.grow q g aj;have BW:bj cH (aM a (cH.enc x.2) 0) (c6 (Z ⟨a.ax,0,K⟩) 1 1) [x.2]:=dx (bY _ _ _);have n2:(aM a (cH.enc x.2) 0).ax=a.ax+1:=Q;have⟨v',h5,ha,t,A,_⟩:=fI (bytes:=16) g.ok (z:=[dd b9,dC ef 0]) rfl P BW J ai J;obtain⟨f,rfl⟩:=bx.Fj t;refine df (ak ha) ?_;simp
   first
    |(rw[Mc _ _ _ _ _ ai];simp;exact C _ _ f (by simp[d,G,s]) (av h) ag (av u) (g.cr.trans A) (by rw[M];exact t))
    |exact C _ _ f (by simp[d,G,s]) (av h) ag (av u) (g.cr.trans A) (by rw[M];exact t)
  .have t:(x.1==(b:Int))=b9:=ak m
   simp[d,u,U,I,V,t,B,-ay];refine⟨Y l-(j+1),J,j+1,Q,I,by simp[d,G,s],av h,av n,av u,ag,Q,λi A X g=>?_⟩;by_cases P:i=j;subst P;rw[E] at g;cases g;exact m;exact r i A J g
 .have:j=Y l:=J
  subst this;have M:=TR (l:=l) (b:=b) (λi x E=>r i x (cR.mp E).1 E);simp at d;rw[s] at d;simp[d,U];exact C _ _ L (by simp[d,s]) (av h) (av n) (av u) (.refl q) (by rw[M];simpa using H)
def axD(c:aB)(W:SV)(l:List (Int×(Bool×Int)))(k:Nat)(m:Nat)(e:Env)(a:aB):Prop:=
 ∃(b:Nat) (L:SV),m=k-b/\b<=k/\bX e 0=W.v/\bz e 1 k/\bX e 5=L.v/\bz e 6 b/\az aV c a/\bx cH c.ax a L.v (fZ l b)
def zr(C:cy h)(M:bj fG h W.v l)(V:Y l<1000000)(k:Nat)(b:k<100000):aY FF 93 [W.v,dC ef k] h (λv b=>az aV h b/\∃L:SV,v=L.v/\bx cH h.ax b L.v (fZ l k)):=by
 refine aY.of FN ?_;unfold xv;simp;refine aN.loop (axD h W l k) ?_ (n:=k) ⟨0,cU,Q,J,ag,ag,by simp[cU],ag,.refl C,fc ⟨Q,Q⟩⟩;rintro m e b⟨b,L,rfl,G,G,s,u,o,g,d⟩;have I:=g.ok;unfold uF;by_cases D:b<k
 have a:=bZ ((b:Int)+1) J J;have m:=HZ l b;simp[s,o,D];refine adm I (M.cr C g) V g.ax d J (k:=k) (b:=b) (av G) (av s) (av u) (av o) ag ?_;intro G G M C U E H G I;simp[H,a];refine⟨k-(b+1),J,b+1,M,Q,D,av C,av U,av E,ag,g.trans' G aj (λy y e=>aw (d.of e)),by rw[MC];exact I⟩
 .have:b=k:=J
  subst this;simp[s,u,o];exact⟨g,L,ag,d⟩
end Go.Proofs.YtdhnndleffachaaGreatDoor
namespace Go.Proofs.YtdhnndleffachaaGreatDoor
open Go.AI Go.AI.Dfs
variable{B:SV}{f:List GB}{bytes c:Nat}{h:aB}{w:aa}{z:List aa}{i:Type}
def vb{i:Type}(E:ly i)(c:Nat)(h:aB)(v:aa)(b:List i):Prop:=bx E c h v b\/(b=[]/\∃b s,v=c6 (Z ⟨b,0,K⟩) 0 0/\h.tr.get b=Z (.ch [] b9 0 s)/\c<=b)
def uH{E:ly i}(o:cy h){v w:aa}{e a:List i}(m:Y z=E.sz)(f:vb E c h v e)(C:bj E h w a)(u:Y e+Y a<1000000)(I:bytes<=1000)(g:c<=h.ax):∃d b,gi h z bytes b9 v w=Z (d,b)/\vb E c b d (e++a)/\(a≠[]->bx E c b d (e++a))/\az (bD v) h b:=by
 rcases f with f|⟨rfl,v,s,rfl,H,M⟩;have⟨d,b,e,G,D⟩:=r9 o m f C u I g;exact⟨d,b,e,fc G,λ_=>G,D⟩
 .unfold gi;rw[CJ m C];dsimp only;have D:=E.pos;have U:E.sz≠0:=J
  rcases a with _|⟨y,a⟩;refine⟨c6 (Z ⟨v,0,K⟩) 0 0,h,?_,ft ⟨Q,v,s,Q,H,M⟩,λe=>absurd Q e,.refl o⟩;simp[dz,m,D];have M:roomy (Y a+1)=cd:=by simp[roomy];simp at u;omega
  have e:roomy ((Y a+1)*bytes)=cd:=by have:(Y a+1)*bytes<=1000000*1000:=Nat.mul_le_mul (by simp at u;omega) I;simp[roomy];omega
  have u:bx E c (aM h (E.flat (y::a)) E.sz) (c6 (Z ⟨h.ax,0,K⟩) (Y a+1) (Y a+1)) ([]++y::a):=ft ⟨h.ax,0,ag,ag,ag,g⟩;refine⟨c6 (Z ⟨h.ax,0,K⟩) (Y a+1) (Y a+1),aM h (E.flat (y::a)) E.sz,?_,fc u,λ_=>u,(aZ o _ _).cr⟩;simp[dz,m,D,M,e,H]
def SO{E:ly i}(d:c<=h.ax):vb E c (aM h [] 0) (c6 (Z ⟨h.ax,0,K⟩) 0 0) []:=ft ⟨Q,h.ax,0,Q,bY _ _ _,d⟩
def On{E:ly i}(M:cy h){b:List i}{y:i}(c:Y z=E.sz)(m:bj E h w b)(U:Y b<100000)(U:bytes<=1000):∃d a H o,gi (aM h [] 0) z bytes b9 (c6 (Z ⟨h.ax,0,K⟩) 0 0) w=Z (d,a)/\az aV h a/\gi (aM a (E.enc y) 0) z bytes b9 d (c6 (Z ⟨a.ax,0,K⟩) 1 1)=Z (H,o)/\az aV h o/\bx E h.ax o H (b++[y]):=by
 have G:=aZ M [] 0;obtain⟨d,a,g,s,_,V⟩:=uH (bytes:=bytes) G.ok c (SO (fE _)) (m.cr M G) (by simp;omega) U G.ax;have m:az aV h a:=G.trans' V aj (λx f e=>by obtain⟨_,_,_,e⟩:=e;cases e;omega);have D:=aZ m.ok (E.enc y) 0;have G:vb E h.ax (aM a (E.enc y) 0) d ([]++b):=by rcases s with E|⟨e,b,s,C,u,I⟩;exact fc (E.grow m.ok D aj);exact ft ⟨e,b,s,C,D.get m.ok u,I⟩
 have M:∀b,bD d b->h.ax<=b:=λb u=>by rcases G with E|⟨_,b,s,C,_,I⟩;exact E.of u;rw[C] at u;obtain⟨_,_,_,e⟩:=u;cases e;exact I
 obtain⟨H,o,C,_,I,u⟩:=uH (bytes:=bytes) D.ok c G (dx (bY _ _ _)) (by simp;omega) U (wV m.ax D.ax);refine⟨d,a,H,o,g,m,C,(m.trans D).trans' u aj (λx f e=>aw (M x e)),?_⟩;simpa using I ag
def abD{tos:List (List Nat)}{k:Nat}{l:List Nat}{i t:Nat}(h:l[i]?=Z t)(s:DS):foldM tos k (l.take (i+1)) s=(if(foldM tos k (l.take i) s).seen[t]?=Z cd then foldM tos k (l.take i) s else visitM tos k t (foldM tos k (l.take i) s)):=by unfold foldM;rw[mw,h,lv];rfl
def ZV(n:Nat)(a:List Int)(s:DS):Prop:=∀x:Nat,x<n->(s.seen[x]?=Z cd↔(x:Int)∈a)
def RWQ(f:List GB)(h:aB)(b:List Int)(s m:DS)(v:aa)(a:aB):Prop:=
 az aV h a/\∃(S L:SV) (d:List Int),v=.tuple #[S.v,L.v]/\bj encI a S.v d/\bj encI a L.v (nI m.left)/\ZV (Y f) d m/\Y d+de m<=Y b+de s
def axo(d:aB)(c:ByteArray)(p r:Int)(B:SV)(f:List GB)(k:Nat):Prop:=
 ∀(b:Nat)(h:aB)(S L:SV)(a:List Int)(s:DS),cy h->az aV d h->bj encI h S.v a->bj encI h L.v (nI s.left)->ZV (Y f) a s->Y a+de s<=Y f->Y s.left+de s<=Y f->Y s.seen=Y f->b<Y f->¬s.seen[b]?=Z cd->de s<=k->aY FF 94 [eU ⟨aC c p r B⟩,dC ef b,S.v,L.v] h (RWQ f h a s (visitM (gT f) k b s))
def RWI(h:aB)(F:Nat)(T:SV)(g k:Nat)(f:List GB)(a:List Nat)(o:List Int)(d:DS)(m:Nat)(e:Env)(b:aB):Prop:=
 ∃(i:Nat) (S L:SV) (c:List Int),m=Y a-i/\i<=Y a/\bz e 1 g/\bX e 2=S.v/\bX e 3=L.v/\cg e 4 F/\bX e 10=T.v/\bz e 11 ((Y a:Int)-1-i)/\az aV h b/\bj encI b S.v c/\bj encI b L.v (nI (foldM (gT f) k (a.take i) d).left)/\ZV (Y f) c (foldM (gT f) k (a.take i) d)/\Y c+de (foldM (gT f) k (a.take i) d)<=Y o+de d
def Zl{h0:aB}(cS:cy h0){v:ByteArray}{p r:Int}(hB:mm h0 B f)(M:kg f):∀k,axo h0 v p r B f k:=by
 have ht:=xS M;have hl:=M.len;intro k;induction k with
 |zero=>
  intro b h S' L' sl s E g sS sL W' c1 c2 hn y hs hk;exfalso;have:=oJ (s:=s) (b:=b) J hs;omega
 |succ k IH=>
  intro b h S' L' sl s E g0 sS sL W' c1 c2 hn y hs hk;have hf:=oJ (s:=s) (b:=b) J hs;have dq:=ae.len hB;have⟨x,hx⟩:=aR f b y;have Dp:=cK hx;obtain⟨bb,off,c,dY,_,_,⟨P',LL,T',rfl,sP,sLL,sT⟩,_,cV⟩:=ae.later cS hB hx;have my:row (gT f) b=x.to.map u1:=by unfold row gT;rw[gu,hx];rfl
  have⟨d,L⟩:∃d,d=(row (gT f) b).reverse:=⟨_,Q⟩;have yE:Y d=Y x.to:=by rw[L,my];simp
  have atz:∀t∈d,t<Y f:=λt h=>ht b t (by rw[L] at h;exact List.mem_reverse.1 h);have h2:=M.two x Dp;have U:=ae.len sT;have⟨o,H⟩:∃o,o=(⟨s.seen.set b cd,s.left⟩:DS):=⟨_,Q⟩;have qZ:de o+1=de s:=by rw[H];exact hf
  have hn1:Y o.seen=Y f:=by rw[H];simpa using hn
  have Uf:o.left=s.left:=by rw[H]
  have vis:visitM (gT f) (k+1) b s=⟨(foldM (gT f) k d o).seen,(foldM (gT f) k d o).left++[b]⟩:=by rw[gZ,L,H]
  rw[vis];refine aY.of Em ?_;unfold vy;have T:=aZ E (aC v p r B) 0;have n1:(aM h (aC v p r B) 0).ax=h.ax+1:=Q;have wX:(aM h (aC v p r B) 0).tr.get h.ax=Z (.ch (aC v p r B) b9 0 0):=bY _ _ _;have⟨v1,xF,v2,h3,e1,gA,e2,z,aS⟩:=On (bytes:=8) (y:=(b:Int)) T.ok (z:=[dC ef 0]) rfl (sS.cr E T) J ai;rw[n1] at e1;obtain⟨S1,rfl⟩:=bx.Fj aS;have oh:=z.get T.ok wX;have X:=T.trans z;have eS:=g0.trans X;have S:=oh;simp[aC] at S;rw[dY,dq] at S;have rT:=cV h3 eS 5 1 ai;simp[-ay] at rT;have wl:c9.wrap ((T'.l:Int)-1)=(Y d:Int)-1-(0:Nat):=by rw[bZ _ J J];omega
  have sL3:=sL.cr E X;simp[aC];refine df (by simpa [aC] using e1) ?_;simp;refine df (ak e2) ?_;simp[S,aD S,y,rT,wl,-ay];have SL1:ZV (Y f) (sl++[(b:Int)]) o:=λO hy=>by rw[H];dsimp only;rw[fq,jL,List.mem_singleton];by_cases F:b=O;subst F;simp[hn,y];rw[bM F,W' O hy];constructor;exactλh=>fc h;rintro(h|h);exact h;omega
  refine aN.loop (RWI h3 h.ax T' b k f d (sl++[(b:Int)]) o) ?_ (n:=Y d) ⟨0,S1,L',_,Q,J,ag,ag,ag,ag,ag,ag,.refl z.ok,aS.sl,by rw[oj,yQ,Uf];exact sL3,by rw[oj,yQ];exact SL1,by rw[oj,yQ];exact fE _⟩;rintro m' e' u⟨i,S2,w,C,rfl,hi,f1,m,f3,f4,G,D,g,I,P,l,c3⟩;have e:=g.ok;have gg:=eS.trans g;have vl:=KL (Ie (gT f) k) (d.take i) o;have vc:=vQ (xU ht k) (d.take i) o hn1 (λt h=>atz t (Xp h));have vf:=xB (Au (gT f) k) (d.take i) o;simp at c3;unfold tm;by_cases dW:i<Y d
  .have⟨t,n⟩:=aR d i dW;have⟨j,hj⟩:∃j:Nat,j+1+i=Y d:=⟨Y d-1-i,J⟩;have ej:(Y d:Int)-1-i=(j:Nat):=J
   rw[ej] at D;have V:j<Y x.to:=J
   have⟨u',hu⟩:=aR x.to j V;have htu:t=u'.toNat:=by rw[L,my,ur (by rw[yd];omega),gu] at n;rw[yd,show Y x.to-1-i=j by omega,hu] at n;simpa using n.symm
   have hu0:=(M.to x Dp u' (cK hu)).1;have W:t<Y f:=atz t (cK n);have etu:u'=(t:Int):=J
   obtain⟨bT,Rm,cT,z7,_,_,rfl,oT,uN⟩:=ae.later cS sT hu;have Q1:=uN u gg 0 1 ai;simp[-ay] at Q1 G;rw[z7,U] at G;have hj0:(0:Int)<=(j:Nat):=J
   have wj:c9.wrap ((j:Int)-1)=(Y d:Int)-1-(i+1:Nat):=by rw[bZ _ J J];omega
   have a:=abD (tos:=gT f) (k:=k) n o;subst etu;simp[m,G,D,V,Q1,-ay];refine bm.call (V:=λv' h2=>h2=u/\v'=dd (decide ((t:Int)∈C))) (by simpa [m] using BT I J (t:Int)) ?_;rintro _ h2⟨eh,rfl⟩;rw[eh];by_cases N:(t:Int)∈C;have A:=(l t W).2 N;rw[bH A] at a;simp[N,D,wj];exact⟨Y d-(i+1),J,i+1,S2,w,C,Q,dW,av f1,av m,av f3,av f4,by simp[G,z7,U],ag,g,I,by rw[a];exact P,by rw[a];exact l,by rw[a];simpa using c3⟩;have A:¬(foldM (gT f) k (d.take i) o).seen[t]?=Z cd:=λF=>N ((l t W).1 F);rw[bM A] at a;have yB:=g.get z.ok oh;have KW:=yB;simp[aC] at KW;have oF:=e.bU yB;have oT':=gg.bU oT;simp[N,m,f3,f4,G,D,V,Q1,KW,aD KW,oF,oT',aK,-ay];have q:=bk e;refine ck.call (V:=RWQ f (tick u) C (foldM (gT f) k (d.take i) o) (visitM (gT f) k t (foldM (gT f) k (d.take i) o))) (by simpa [aC,dY,dq] using IH t (tick u) S2 w C _ q.ok (gg.trans q) (I.cr e q) (P.cr e q) l J (by rw[Uf] at vc;omega) (by rw[vl];exact hn1) W A J) ?_;rintro _ h4⟨g4,S4,L4,sl4,rfl,sS4,sL4,W4,c4⟩;simp[D,wj];exact⟨Y d-(i+1),J,i+1,S4,L4,sl4,Q,dW,av f1,ag,ag,av f4,by simp[G,z7,U],ag,(g.trans q).trans g4,sS4,by rw[a];exact sL4,by rw[a];exact W4,by rw[a];simp;omega⟩
  .have:i=Y d:=J
   subst this;rw[mI] at P l c3 vc vf vl;have V:¬(Y d:Int)<=(Y d:Int)-1:=J
   simp[m,f3,D,V];have n:bj encI u (c6 w.a w.l w.c) (nI (foldM (gT f) k d o).left):=P;have⟨v5,h5,W,h6,A,gC,q,j,a⟩:=On (bytes:=8) (y:=(b:Int)) e (z:=[dC ef 0]) rfl n (by simp[nI];rw[Uf] at vc;omega) ai;obtain⟨N,rfl⟩:=bx.Fj a;refine df (ak A) ?_;simp[f1];refine df (ak q) ?_;simp;exact⟨(X.trans g).trans j,S2,N,C,ag,I.cr e j,by simpa [nI] using a.sl,λO hy=>l O hy,by show Y C+de (foldM (gT f) k d o)<=_;omega⟩
def ROI(c:aB)(W:SV)(a:List Int)(m:Nat)(e:Env)(b:aB):Prop:=
 ∃(i:Nat) (L:SV),m=Y a-i/\i<=Y a/\bX e 4=W.v/\bX e 5=L.v/\bz e 6 ((Y a:Int)-1-i)/\az aV c b/\bx encI c.ax b L.v (a.reverse.take i)
def IT(C:cy h){name:ByteArray}{p r:Int}(z:mm h B f)(N:kg f)(H:0<Y f):aY FF 39 [eU ⟨aC name p r B⟩] h (λv T=>az aV h T/\∃L:SV,v=L.v/\bx encI h.ax T L.v (nI (dU f))):=by
 have o:=N.len;have j:de ⟨an (Y f) b9,[]⟩=Y f:=EF _;refine aY.of C9 ?_;unfold ui;simp[aC];have s:=aZ C (aC name p r B) 0;refine bm.cut (λD=>az aV h D) (by simpa [aC] using s) ?_;intro D s;refine bm.call (V:=RWQ f D [] ⟨an (Y f) b9,[]⟩ (visitM (gT f) (Y f) 0 ⟨an (Y f) b9,[]⟩)) (by simpa [aC,cU] using Zl C z N (Y f) 0 D cU cU [] ⟨an (Y f) b9,[]⟩ s.ok s (bj.nil _ _ _) (bj.nil _ _ _) (λx I=>by simp[TV]) (by rw[j];simp) (by rw[j];simp) ag H (by simp[TV]) (by rw[j];exact fE _)) ?_;rintro _ k⟨t,S,L,G,rfl,_,M,_,_⟩;have O:=s.trans t;have⟨E,b⟩:∃E,E=nI (visitM (gT f) (Y f) 0 ⟨an (Y f) b9,[]⟩).left:=⟨_,Q⟩;have U:nI (dU f)=E.reverse:=by rw[b];unfold dU Dfs.uD nI;rw[List.map_reverse]
 rw[<-b] at M;have n:Y E<=Y f:=by have:=xU (xS N) (Y f) 0 ⟨an (Y f) b9,[]⟩ ag H (by simp[TV]);rw[j] at this;rw[b];simp[nI] at this⊢;omega
 have I:L.l=Y E:=by have⟨a,o,e,_⟩:=id M;simp at e;exact e.2.1
 have u:c9.wrap ((Y E:Int)-1)=(Y E:Int)-1-(0:Nat):=by rw[bZ _ J J];omega
 simp[I,u];refine aN.loop (ROI k L E) ?_ (n:=Y E) ⟨0,cU,Q,J,av I,by simp[cU],ag,.refl t.ok,fc ⟨ag,Q⟩⟩;rintro m e T⟨i,A,rfl,q,H,x,G,g,d⟩;have k:=g.ok;unfold qJ;by_cases X:i<Y E
 .have⟨j,s⟩:∃j:Nat,j+1+i=Y E:=⟨Y E-1-i,J⟩;have N:(Y E:Int)-1-i=(j:Nat):=J
  rw[N] at G;have C:j<Y E:=J
  have⟨u,D⟩:=aR E j C;obtain⟨s,w,N,v,_,⟨y,y,y,P,c⟩,o⟩:=(M.cr t.ok g).read D;have l:=o 0 1 ai;simp[-ay] at l v;simp at H;rw[v.1,I] at H;have z:(0:Int)<=(j:Nat):=J
  have F:c9.wrap ((j:Int)-1)=(Y E:Int)-1-(i+1:Nat):=by rw[bZ _ J J];omega
  simp[H,x,G,C,l,-ay];have C:=aZ k [dC ef u] 0;have c:=d.grow k C aj;have t:bj encI (aM T [dC ef u] 0) (c6 (Z ⟨T.ax,0,K⟩) 1 1) [u]:=dx (E:=encI) (x:=u) (bY _ _ _);have V:=g.ax;have b:(aM T [dC ef u] 0).ax=T.ax+1:=Q;have⟨k,S,N,s,b,_⟩:=fI (bytes:=8) C.ok (z:=[dC ef 0]) rfl c t (by rw[ml];omega) ai J;obtain⟨S,rfl⟩:=bx.Fj s;refine df (ak N) ?_;simp[G,F];have V:E.reverse[i]?=Z u:=by rw[ur X,show Y E-1-i=j by omega,D]
  refine⟨Y E-(i+1),J,i+1,S,Q,X,by simp[H,v,I],ag,ag,(g.trans C).trans' b aj (λy o e=>aw (d.of e)),?_⟩;rw[mw,V];exact s
 .have:i=Y E:=J
  subst this;have t:¬(Y E:Int)<=(Y E:Int)-1:=J
  simp[x,G,t];rw[nz ag] at d;exact⟨O.trans g,A,ag,by rw[U];exact bx.low (E:=encI) d O.ax⟩
end Go.Proofs.YtdhnndleffachaaGreatDoor
namespace Go.Proofs.YtdhnndleffachaaGreatDoor
open Go.AI
variable{A L O P W M:SV}{F N R X aF c d8 dA i j k n n0 n8 nb o U s:Nat}{C:bJ->Env->aB->Prop}{a bU now p rg x:Int}{ah:List (List Int)}{ats l m pk to w:List Int}{bs:List GB}{bw:List Nat}{g:List aa}{V row vs:List (Bool×Int)}{e:Env}{f u:Int->Int}{h h' h0 h1:aB}{iU ys:List YB}{name:ByteArray}{q:GP×SV}{z r y:YB}{v:Bool×Int}{ws:List SV}{G:Type}
def dN(l:List Int)(r:Int):List Int:=if r∈l then l else l++[r]
def gz(l:List Int)(vs:List (Bool×Int)):List Int:=vs.foldl (λl v=>if v.1 then dN l v.2 else l) l
def HM(l:List Int)(r:Int):Y (dN l r)<=Y l+1:=by unfold dN;split<;>simp
def UI(h:vs[j]?=Z v):gz l (vs.take (j+1))=if v.1 then dN (gz l (vs.take j)) v.2 else gz l (vs.take j):=by unfold gz;rw[mw,h,lv];rfl
def Ah:∀(vs:List (Bool×Int))(l:List Int),Y (gz l vs)<=Y l+Y vs
 |[],l=>fE _
 |v::vs,l=>by
  have h1:gz l (v::vs)=gz (if v.1 then dN l v.2 else l) vs:=Q;rw[h1];have d:=Ah vs (if v.1 then dN l v.2 else l);have m:Y (if v.1=cd then dN l v.2 else l)<=Y l+1:=by split;exact HM _ _;omega
  simp only[kb];omega
def W0(n0:Nat)(W:SV)(w:List Int)(h:aB)(v:aa)(h':aB):Prop:=az (bD W.v) h h'/\∃L:SV,v=L.v/\bx encI n0 h' L.v w/\∀c,bD L.v c->bD W.v c\/h.ax<=c
def E7(s:cy h)(d:n0<=h.ax)(d:bx encI n0 h W.v w)(U:Y w<100000)(r:Int):aY FF 151 [W.v,dC ef r] h (W0 n0 W (dN w r) h):=by
 refine aY.of Eo ?_;unfold vA;simp;refine bm.call (V:=λv h'=>h'=h/\v=dd (decide (r∈w))) (ak (BT d.sl J r)) ?_;rintro _ h'⟨a,rfl⟩;rw[a];by_cases m:r∈w;simp[m];exact⟨.refl s,W,ag,by unfold dN;rw[bH m];exact d,λc u=>fc u⟩;simp[m];have o:=aZ s [dC ef r] 0;have D:=d.grow s o aj;have G:bj encI (aM h [dC ef r] 0) (c6 (Z ⟨h.ax,0,K⟩) 1 1) [r]:=dx (E:=encI) (x:=r) (bY _ _ _);have d:(aM h [dC ef r] 0).ax=h.ax+1:=Q;obtain⟨d,d,H,C,M,I⟩:=fI (bytes:=8) o.ok (z:=[dC ef 0]) rfl D G J ai J;obtain⟨d,rfl⟩:=bx.Fj C;refine df (ak H) ?_;simp;exact⟨o.cr.trans M,d,ag,by unfold dN;rw[bM m];exact C,λc u=>ft (aw (I c u))⟩
def MaI(h1:aB)(n0:Nat)(W V:SV)(vs:List (Bool×Int))(w:List Int)(m:Nat)(e:Env)(h':aB):Prop:=
 ∃(j:Nat) (L:SV),m=Y vs-j/\j<=Y vs/\bX e 0=L.v/\bX e 1=V.v/\bz e 5 j/\az (bD W.v) h1 h'/\bx encI n0 h' L.v (gz w (vs.take j))/\∀c,bD L.v c->bD W.v c\/h1.ax<=c
def Ag(X:cy h)(F:n0<=h.ax){W V:SV}(M:bx encI n0 h W.v w)(r:bj cH h V.v vs)(O:∀c,bD V.v c->¬bD W.v c)(B:Y w+Y vs<100000):aY FF 152 [W.v,V.v] h (W0 n0 W (gz w vs) h):=by
 have s:V.l=Y vs:=by have⟨a,p,e,_⟩:=id r;simp at e;exact e.2.1
 refine aY.of AP ?_;unfold qy;simp[s];refine aN.loop (MaI h n0 W V vs w) ?_ (n:=Y vs) ⟨0,W,Q,J,ag,av s,ag,.refl X,by simpa [gz] using M,λc u=>fc u⟩;rintro m e h'⟨j,L,rfl,x,E,d,q,g,H,I⟩;have A:=g.ok;unfold pH;by_cases C:j<Y vs
 .have b:=bZ ((j:Int)+1) J J;have⟨v,P⟩:=aR vs j C;have t:=r.grow X g (λc u e=>O c u e);obtain⟨z,X,O,o,_,_,O⟩:=t.read P;have D:=O 0 1 ai;have U:=O 1 1 ai;simp[-ay] at D U o;simp at d;rw[o.1,s] at d;have G:=UI (l:=w) P;have y:=Ah (vs.take j) w;have i:Y (vs.take j)<=j:=by simp;omega
  have i:=g.ax;cases x:v.1;rw[x] at D G;simp[d,q,C,D,b,-ay];exact⟨Y vs-(j+1),J,j+1,L,Q,C,av E,by simp[d,o,s],ag,g,by rw[G];simpa using H,I⟩;rw[x] at D G;simp[E,d,q,C,D,U,-ay];refine bm.call (V:=W0 n0 L (dN (gz w (vs.take j)) v.2) h') (by simpa [E] using E7 A J H J v.2) ?_;rintro _ t⟨l,B,rfl,k,y⟩;simp[q,b];exact⟨Y vs-(j+1),J,j+1,B,Q,C,ag,by simp[d,o,s],ag,g.trans' l aj (λc u e=>(I c e).elim id (λh=>J)),by rw[G];simpa using k,λc u=>(y c u).elim (λh=>I c h) (λh=>ft J)⟩
 .have:j=Y vs:=J
  subst this;rw[mI] at H;simp at d;rw[s] at d;simp[E,d,q];exact⟨g,L,ag,H,I⟩
def bq(l:List Int)(v:Bool×Int):Bool×Int:=if v.1 then(cd,aO l v.2) else v
def v7(d:cy h)(E:bj encI h W.v w)(C:Y w<1000000)(v:Bool×Int):aY FF 153 [eU ⟨[dd v.1,dC ef v.2]⟩,W.v] h (λu h'=>az aV h h'/\u=eU ⟨[dd (bq w v).1,dC ef (bq w v).2]⟩):=by
 have o:¬h.ax=h.ax+1:=J
 refine aY.of Dc ?_;unfold um;have⟨t,i⟩:=v;cases t;simp[o,bq,bg];exact(((az.refl d).new _ _).new _ _).put ⟨0,ag⟩ (fc J);simp[o];refine bm.cut (λh1=>az aV h h1/\c_ h1 (h.ax+1) [dd b9,dC ef 0]) ⟨((az.refl d).new _ _).new _ _,0,ag⟩ ?_;rintro h1⟨m,H,s⟩;refine bm.call (V:=λv h'=>h'=h1/\v=dC ef (aO w i)) (ak (pf (E.cr d m) C i)) ?_;rintro _ G⟨D,rfl⟩;rw[D];simp[s,bq,bg];exact m.put ⟨_,s⟩ (fc J)
def fO(x:GI):List (Bool×Int):=
 if x.op=21 then [] else if x.op=20 then x.args else if(2<=x.op/\x.op<=15)\/x.op=19 then [x.a,x.b] else if 1<=x.op/\x.op<=22 then [x.a] else []
def MI(j:cy h){x:GI}(o:bj cH h A.v x.args)(H:Y x.args<100000):aY FF 44 [eU ⟨aQ x.op x.dst x.a.1 x.a.2 x.b.1 x.b.2 x.fn A.v⟩] h (λv h'=>az aV h h'/\∃L:SV,v=L.v/\bx cH h.ax h' L.v (fO x)):=by
 have s:=aZ j (aQ x.op x.dst x.a.1 x.a.2 x.b.1 x.b.2 x.fn A.v) 0;have H:(aM h (aQ x.op x.dst x.a.1 x.a.2 x.b.1 x.b.2 x.fn A.v) 0).ax=h.ax+1:=Q;refine aY.of Ek ?_;unfold vx;by_cases H:x.op=21
 .have u:(x.op==21)=cd:=by simp[H]
  simp[aQ,u];refine⟨by simpa [aQ] using s,cU,by simp[cU],fc ⟨by unfold fO;rw[bH H],Q⟩⟩
 have u:(x.op==21)=b9:=ak H
 by_cases M:x.op=20
 .have D:(x.op==20)=cd:=by simp[M]
  obtain⟨l,I,I,m,a⟩:=r9 (bytes:=16) (E:=cH) s.ok (z:=[dd b9,dC ef 0]) rfl (n0:=h.ax) (xs:=[]) (v:=c6 K 0 0) (fc ⟨Q,Q⟩) (o.cr j s) (by simp;omega) ai J;obtain⟨L,rfl⟩:=bx.Fj m;simp[aQ,u,D];refine df (by simpa [aQ] using I) ?_;simp;exact⟨s.trans' a aj (λc _ e=>by have⟨_,_,_,e⟩:=e;cases e),L,ag,by unfold fO;rw[bM H,bH M];simpa using m⟩
 have D:(x.op==20)=b9:=ak M
 by_cases j:(2<=x.op/\x.op<=15)\/x.op=19
 .have a:=aZ s.ok [dd x.a.1,dC ef x.a.2,dd x.b.1,dC ef x.b.2] 0;have g:bj cH (aM (aM h (aQ x.op x.dst x.a.1 x.a.2 x.b.1 x.b.2 x.fn A.v) 0) [dd x.a.1,dC ef x.a.2,dd x.b.1,dC ef x.b.2] 0) (c6 (Z ⟨h.ax+1,0,K⟩) 2 2) [x.a,x.b]:=⟨_,2,Q,ft ⟨h.ax+1,0,_,_,_,_,Q,bY _ _ _,ag,by simp[ly.flat]⟩⟩;have⟨l,U,I,m,k⟩:=r9 (bytes:=16) (E:=cH) a.ok (z:=[dd b9,dC ef 0]) rfl (n0:=h.ax) (xs:=[]) (v:=c6 K 0 0) (fc ⟨Q,Q⟩) g ag ai (aw a.ax);obtain⟨L,rfl⟩:=bx.Fj m;have d:az aV h U/\∃G:SV,L.v=G.v/\bx cH h.ax U G.v (fO x):=⟨(s.trans a).trans' k aj (λc _ e=>by have⟨_,_,_,e⟩:=e;cases e),L,Q,by unfold fO;rw[bM H,bM M,bH j];simpa using m⟩;by_cases C:2<=x.op
  .by_cases f:x.op<=15;simp[aQ,u,D,C,f];refine df (by simpa [aQ] using I) ?_;simpa using d
   .have b:(x.op==19)=cd:=by simp;omega
    simp[aQ,u,D,C,f,b];refine df (by simpa [aQ] using I) ?_;simpa using d
  omega
 have b:(x.op==19)=b9:=by simp;omega
 by_cases i:1<=x.op/\x.op<=22
 .have a:=aZ s.ok (cH.enc x.a) 0;have g:bj cH (aM (aM h (aQ x.op x.dst x.a.1 x.a.2 x.b.1 x.b.2 x.fn A.v) 0) (cH.enc x.a) 0) (c6 (Z ⟨h.ax+1,0,K⟩) 1 1) [x.a]:=dx (bY _ _ _);have⟨l,U,I,m,k⟩:=r9 (bytes:=16) (E:=cH) a.ok (z:=[dd b9,dC ef 0]) rfl (n0:=h.ax) (xs:=[]) (v:=c6 K 0 0) (fc ⟨Q,Q⟩) g ag ai (aw a.ax);obtain⟨L,rfl⟩:=bx.Fj m;have d:az aV h U/\∃G:SV,L.v=G.v/\bx cH h.ax U G.v (fO x):=⟨(s.trans a).trans' k aj (λc _ e=>by have⟨_,_,_,e⟩:=e;cases e),L,Q,by unfold fO;rw[bM H,bM M,bM j,bH i];simpa using m⟩;have⟨a,V⟩:=i;by_cases C:2<=x.op
  .have f:¬x.op<=15:=J
   simp[aQ,u,D,C,f,b,a,V];refine df (by simpa [aQ] using I) ?_;simpa using d
  simp[aQ,u,D,C,b,a,V];refine df (by simpa [aQ] using I) ?_;simpa using d
 .have d:az aV h (aM h (aQ x.op x.dst x.a.1 x.a.2 x.b.1 x.b.2 x.fn A.v) 0)/\∃G:SV,cU.v=G.v/\bx cH h.ax (aM h (aQ x.op x.dst x.a.1 x.a.2 x.b.1 x.b.2 x.fn A.v) 0) G.v (fO x):=⟨s,cU,Q,fc ⟨by unfold fO;rw[bM H,bM M,bM j,bM i],Q⟩⟩;by_cases a:1<=x.op
  .have V:¬x.op<=22:=J
   have C:2<=x.op:=J
   have f:¬x.op<=15:=J
   simp[aQ,u,D,C,f,b,a,V];simpa [aQ,cU] using d
  .have C:¬2<=x.op:=J
   simp[aQ,u,D,C,b,a];simpa [aQ,cU] using d
def RmI(h1:aB)(U:Nat)(bs:List GB)(m:Nat)(e:Env)(h':aB):Prop:=
 ∃j:Nat,m=Y bs-j/\j<=Y bs/\cg e 1 U/\bz e 3 (dw (bs.take j))/\bz e 4 j/\az aV h1 h'
def N6(bs:List GB)(j:Nat):dw (bs.take j)<=dw bs:=by
 induction bs generalizing j with
 |nil=>simp
 |cons b bs d=>
  cases j with
  |zero=>simp[dw]
  |succ j=>simp only[List.take_succ_cons,dw];have:=d j;omega
def Y2(a:cy h){name:ByteArray}{p r:Int}{B:SV}(M:mm h B bs)(E:Y bs<100000)(E:dw bs<1000000000):aY FF 97 [eU ⟨aC name p r B⟩] h (λv h'=>az aV h h'/\v=dC ef (dw bs)):=by
 have E:=ae.len M;refine aY.of Eh ?_;unfold vu;simp[aC];refine aN.cut (λh1=>az aV h h1/\c_ h1 h.ax (aC name p r B)) ⟨(az.refl a).new _ _,0,by simp[aC]⟩ ?_;rintro h1⟨D,B,b⟩;refine aN.loop (RmI h1 h.ax bs) ?_ (n:=Y bs) ⟨0,Q,J,ag,by simp[dw],ag,.refl D.ok⟩;rintro m e h'⟨j,rfl,B,u,C,B,g⟩;have V:=g.ok;have o:=D.trans g;have d:=g.get D.ok b;simp[aC] at d;rw[E] at d;unfold tf;by_cases s:j<Y bs
 .have U:=bZ ((j:Int)+1) J J;have⟨b,G⟩:=aR bs j s;obtain⟨E,Dr,E,D,_,_,⟨P,L,T,rfl,E,I,c⟩,c,H⟩:=ae.later a M G;have a:=ae.len E;have E:=ae.len I;have I:=H h' o 0 1 ai;have E:=H h' o 1 1 ai;simp[-ay] at I E;rw[D] at d;have H:=vY G;have H:=N6 bs (j+1);have H:c9.wrap ((dw (bs.take j):Int)+(P.l:Int))=((dw (bs.take j)+Y b.aP:Nat):Int):=by rw[bZ _ J J];omega
  have a:c9.wrap (((dw (bs.take j)+Y b.aP:Nat):Int)+(L.l:Int))=((dw (bs.take (j+1)):Nat):Int):=by rw[bZ _ J J];omega
  have b:=V.bU d;have D:=o.bU c;simp[u,C,B,d,aD d,s,I,E,b,D,aK,H,a,U,-ay,-Int.natCast_add];exact⟨Y bs-(j+1),J,j+1,Q,s,av u,ag,ag,by first|exact g.tick|exact g⟩
 .have:j=Y bs:=J
  subst this;rw[mI] at C;simp[u,C,B,d];exact o
def jy(r:Int)(bs:List GB):Bool:=decide (40<Y bs)||decide (300<dw bs)||decide (100<r)
def U9(E:cy h){name:ByteArray}{p r:Int}{B:SV}(G:mm h B bs)(D:Y bs<100000)(I:dw bs<1000000000):aY FF 45 [eU ⟨aC name p r B⟩] h (λv h'=>az aV h h'/\v=dd (jy r bs)):=by
 have s:=ae.len G;refine aY.of C7 ?_;unfold uf;by_cases d:40<Y bs
 .have m:(40:Int)<Y bs:=J
  simp[aC,s,d,m,jy];exact(by simpa [aC,s] using aZ E (aC name p r B) 0)
 have m:¬(40:Int)<Y bs:=J
 simp[aC,s,d,m];refine bm.cut (λh1=>az aV h h1/\c_ h1 h.ax (aC name p r B)) ⟨by simpa [aC,s] using aZ E (aC name p r B) 0,0,by simp[aC,s]⟩ ?_;rintro h1⟨u,M,B⟩;refine bm.call (V:=λv h'=>az aV h1 h'/\v=dC ef (dw bs)) (by simpa [aC,s] using Y2 u.ok (name:=name) (p:=p) (r:=r) (G.mono E u) D I) ?_;rintro _ D⟨D,rfl⟩;have H:=D.get u.ok B;simp[aC] at H;by_cases C:300<dw bs
 .have o:(300:Int)<dw bs:=J
  simp[C,o,jy,d];exact u.trans D
 .have o:¬(300:Int)<dw bs:=J
  simp[C,o,H,jy,d];exact u.trans D
def HP(l:List Int)(a:List GP):List Int:=a.foldl (λl p=>dN l p.dst) l
def HR(l:List Int)(x:GI):List Int:=if 0<=x.dst then dN (gz l (fO x)) x.dst else gz l (fO x)
def yn(l:List Int)(w:List GI):List Int:=w.foldl HR l
def acB{a:List GP}{p:GP}(h:a[j]?=Z p):HP l (a.take (j+1))=dN (HP l (a.take j)) p.dst:=by unfold HP;rw[mw,h,lv];rfl
def LP:∀(a:List GP)(l:List Int),Y (HP l a)<=Y l+Y a
 |[],l=>fE _
 |p::a,l=>by have h1:HP l (p::a)=HP (dN l p.dst) a:=Q;rw[h1];have d:=LP a (dN l p.dst);have m:=HM l p.dst;simp only[kb];omega
def axe(h1:aB)(n0 X:Nat)(W:SV)(w:List Int)(a:List GP)(e:Env)(m:Nat)(b:Env)(h':aB):Prop:=
 ∃(j:Nat) (L:SV),m=Y a-j/\j<=Y a/\aH ([3,7]++(aA 15).map (· +33)) e b/\bX b 3=L.v/\bz b 7 j/\az (bD W.v) h1 h'/\bx encI n0 h' L.v (HP w (a.take j))/\∀c,bD L.v c->bD W.v c\/h1.ax<=c
def agw(r:cy h0)(y:cy h1)(b:n0<=h1.ax)(u:∀ {h':aB},az (bD W.v) h1 h'->az aV h0 h'){a:List GP}(l:ae (pR h0) 2 h0 P.v a)(G:bx encI n0 h1 W.v w)(b:Y w+Y a<100000)(t:dR h1 X (P.v::g) s)(M:¬bD W.v X)(b:bX e 3=W.v)(B:cg e 6 X)(E:bz e 7 0)(n:∀T h' (L:SV),aH ([3,7]++(aA 15).map (· +33)) e T->bX T 3=L.v->az (bD W.v) h1 h'->bx encI n0 h' L.v (HP w a)->(∀c,bD L.v c->bD W.v c\/h1.ax<=c)->C (.exit 4) T h'):aN FF (.loop mY) e h1 C:=by
 have V:=ae.len l;refine aN.loop (axe h1 n0 X W w a e) ?_ (n:=Y a) ⟨0,W,Q,J,aH.refl _ _,b,E,.refl y,by simpa [HP] using G,λc b=>fc b⟩;rintro m T h'⟨j,L,rfl,v,f,H,D,k,I,z⟩;have N:=k.ok;have O:az aV h0 h':=u k;have U:=f.at B;have d:=k.get y t M;simp at d;rw[V] at d;unfold mY;by_cases E:j<Y a
 .have S:=bZ ((j:Int)+1) J J;have⟨p,x⟩:=aR a j E;obtain⟨v,uV,t,v,_,_,⟨A,rfl,o⟩,f,f⟩:=ae.later r l x;have F:=f h' O 0 1 ai;simp[-ay] at F;rw[v] at d;have t:=acB (l:=w) x;have O:=LP (a.take j) w;have i:Y (a.take j)<=j:=by simp;omega
  have r:=k.ax;simp[H,U,D,d,aD d,E,F,-ay];refine bm.call (V:=W0 n0 L (dN (HP w (a.take j)) p.dst) h') (by simpa [H] using E7 N J I J p.dst) ?_;rintro _ N⟨i,T,rfl,N,f⟩;simp[D,S];refine⟨Y a-(j+1),J,j+1,T,Q,E,?_,ag,ag,k.trans' i aj (λc b e=>(z c e).elim id (λh=>J)),by rw[t];exact N,λc b=>(f c b).elim (λh=>z c h) (λh=>ft J)⟩
  exact au
 .have:j=Y a:=J
  subst this;rw[mI] at I;simp[U,D,d,aD d,-ay];refine n _ _ L ?_ (av H) k I z
  exact au
def acA{w:List GI}{x:GI}(h:w[j]?=Z x):yn l (w.take (j+1))=HR (yn l (w.take j)) x:=by unfold yn;rw[mw,h,lv];rfl
def zx(x:GI):Y (fO x)<=Y x.args+2:=by
 unfold fO
 (repeat' split)<;>simp<;>omega
def agt(l:List Int)(x:GI):Y (HR l x)<=Y l+Y x.args+3:=by
 have h1:=Ah (fO x) l;have d:=zx x;unfold HR;split
 have:=HM (gz l (fO x)) x.dst;omega;omega
def LO(k:Nat):∀(w:List GI)(l:List Int),(∀x∈w,Y x.args<=k)->Y (yn l w)<=Y l+Y w*(k+3)
 |[],l,_=>by simp[yn]
 |x::w,l,h=>by have h1:yn l (x::w)=yn (HR l x) w:=Q;rw[h1];have m:=LO k w (HR l x) (λy d=>h y (vU _ d));have s:=agt l x;have o:=h x (iz ..);simp only[kb,qB,Nat.one_mul];omega
def aqz:List Nat:=[3,8]++(aA 30).map (· +48)
def axd(h1:aB)(n0:Nat)(W:SV)(m:List Int)(w:List GI)(e:Env)(b:Nat)(a:Env)(h':aB):Prop:=
 ∃(j:Nat) (L:SV),b=Y w-j/\j<=Y w/\aH aqz e a/\bX a 3=L.v/\bz a 8 j/\az (bD W.v) h1 h'/\bx encI n0 h' L.v (yn m (w.take j))/\∀c,bD L.v c->bD W.v c\/h1.ax<=c
def agu(V:cy h0)(f:cy h1)(F:n0<=h1.ax){W P I:SV}(G:∀ {h':aB},az (bD W.v) h1 h'->az aV h0 h'){w:List GI}(T:ae (iR h0) 8 h0 I.v w)(l:bx encI n0 h1 W.v m)(k:Y w<=300)(S:∀x∈w,Y x.args<=100)(B:Y m<60000)(z:dR h1 X (P.v::I.v::g) s)(H':¬bD W.v X)(r:bX e 3=W.v)(E:cg e 6 X)(k:bz e 8 0)(C':∀a h' (L:SV),aH aqz e a->bX a 3=L.v->az (bD W.v) h1 h'->bx encI n0 h' L.v (yn m w)->(∀c,bD L.v c->bD W.v c\/h1.ax<=c)->C (.exit 6) a h'):aN FF (.loop mX) e h1 C:=by
 have F:=ae.len T;refine aN.loop (axd h1 n0 W m w e) ?_ (n:=Y w) ⟨0,W,Q,J,aH.refl _ _,r,k,.refl f,by simpa [yn] using l,λc i=>fc i⟩;rintro D a h'⟨j,L,rfl,I,D,t,q,r,I,l⟩;have b:=r.ok;have a:az aV h0 h':=G r;have B:=D.at E;have d:=r.get f z H';have p:=d;simp at d;rw[F] at d;unfold mX;by_cases E:j<Y w
 .have wj:=bZ ((j:Int)+1) J J;have⟨x,k⟩:=aR w j E;have D:=cK k;obtain⟨O,F,F,n,_,_,⟨A,rfl,o⟩,F,O⟩:=ae.later V T k;have N:=O h' a 0 8 ai;simp[-ay,aQ] at N;rw[n] at d;have H:=acA (l:=m) k;have p:=LO 100 (w.take j) m (λy T=>S y (Xp T));have k:Y (w.take j)<=j:=by simp;omega
  have p:=zx x;have n:=S x D;have T:=r.ax;have D:Y (yn m (w.take j))<92000:=by have:Y (w.take j)*103<=300*103:=Gd _ J;omega
  simp[t,B,q,d,aD d,E,N,-ay];refine bm.call (V:=λv F=>az aV h' F/\∃U:SV,v=U.v/\bx cH h'.ax F U.v (fO x)) (by simpa [aQ] using MI b ((MT o).cr V a) (x:=x) J) ?_;rintro _ F⟨D,U,rfl,V⟩;have S:=I.grow b D aj;have T:=D.ax;have p:∀c,bD L.v c->c<h'.ax:=λc e=>by rcases I with⟨_,a⟩|⟨k,T,a,k,_,_⟩;rw[a] at e;have⟨_,_,_,n⟩:=e;cases n;rw[a] at e;have⟨_,_,_,n⟩:=e;cases n;exact b.wf _ _ k
  simp[t];refine bm.call (V:=W0 n0 L (gz (yn m (w.take j)) (fO x)) F) (by simpa [t] using Ag D.ok J S V.sl (λc i e=>by have:=V.of i;have:=p c e;omega) J) ?_;rintro _ S⟨k,p,rfl,N,n⟩;have T:=k.ax;have a:¬bD L.v X:=λe=>by rcases l X e with h|h;exact H' h;have:=f.wf _ _ z;omega
  have V:=k.get D.ok (D.get b d) a;have T:az (bD W.v) h1 S:=(r.trans D.cr).trans' k aj (λc i e=>(l c e).elim id (λh=>J));have D:=O S (G T) 1 1 ai;simp[-ay,aQ] at D;have u:∀c,bD p.v c->bD W.v c\/h1.ax<=c:=λc i=>(n c i).elim (λh=>l c h) (λh=>ft J);by_cases M:0<=x.dst
  .have O:HR (yn m (w.take j)) x=dN (gz (yn m (w.take j)) (fO x)) x.dst:=by unfold HR;rw[bH M]
   have a:=Ah (fO x) (yn m (w.take j));simp[B,q,V,aD V,E,D,M,-ay];refine bm.call (V:=W0 n0 p (dN (gz (yn m (w.take j)) (fO x)) x.dst) S) (ak (E7 k.ok J N J x.dst)) ?_;rintro _ k⟨n,f,rfl,b,z⟩;have a:=n.ax;simp[q,wj];refine⟨Y w-(j+1),J,j+1,f,Q,E,?_,ag,ag,T.trans' n aj (λc i e=>(u c e).elim id (λh=>J)),by rw[H,O];exact b,λc i=>(z c i).elim (λh=>u c h) (λh=>ft J)⟩
   exact au
  .have O:HR (yn m (w.take j)) x=gz (yn m (w.take j)) (fO x):=by unfold HR;rw[bM M]
   simp[B,q,V,aD V,E,D,M,wj,-ay];refine⟨Y w-(j+1),J,j+1,p,Q,E,?_,ag,ag,T,by rw[H,O];exact N,u⟩
   exact au
 .have:j=Y w:=J
  subst this;rw[mI] at I;simp[B,q,d,aD d,-ay];refine C' _ _ L ?_ (av t) r I l
  exact au
def Yv(l:List Int)(b:GB):List Int:=gz (yn (HP l b.aP) b.list) [b.on]
def ta(l:List Int)(bs:List GB):List Int:=bs.foldl Yv l
def Yw{b:GB}(h:bs[j]?=Z b):ta l (bs.take (j+1))=Yv (ta l (bs.take j)) b:=by unfold ta;rw[mw,h,lv];rfl
def axf(h1:aB)(S:Nat)(m:List Int)(bs:List GB)(b:Nat)(a:Env)(h':aB):Prop:=
 ∃(j:Nat) (L:SV),b=Y bs-j/\j<=Y bs/\cg a 1 S/\bX a 3=L.v/\bz a 5 j/\az (λc=>h1.ax<=c) h1 h'/\bx encI h1.ax h' L.v (ta m (bs.take j))
def Yy{h0 h1 B:aB}(V:cy h0)(t:az aV h0 h1)(X:az aV h1 B){W O:SV}{p r:Int}(z:mm h0 O bs)(D:bx encI h1.ax B W.v m)(l:Y bs<=100)(n:∀b∈bs,Y b.aP<=300)(JE:∀b∈bs,Y b.list<=300)(Be:∀b∈bs,∀x∈b.list,Y x.args<=100)(y:∀j,Y (ta m (bs.take j))<50000){S v:Nat}(i:dR h1 S (aC name p r O) v)(l:cg e 1 S)(k:bX e 3=W.v)(H:bz e 5 0)(C':∀v h' (L:SV),cg v 1 S->bX v 3=L.v->az aV h1 h'->bx encI h1.ax h' L.v (ta m bs)->C (.exit 2) v h'):aN FF (.loop mZ) e B C:=by
 have B:=ae.len z;have O:∀ {h'},az (λc=>h1.ax<=c) h1 h'->az aV h1 h':=λg=>(az.refl t.ok).trans' g aj (λc u e=>J);refine aN.loop (axf h1 S m bs) ?_ (n:=Y bs) ⟨0,W,Q,J,l,k,H,X.cr,by simpa [ta] using D⟩;rintro D v h'⟨j,L,rfl,I,l,f,T,g,X⟩;have A:=g.ok;have q:=O g;have N:az aV h0 h':=t.trans q;have v:=q.get t.ok i;simp[aC] at v;rw[B] at v;unfold mZ;by_cases B:j<Y bs
 .have wj:=bZ ((j:Int)+1) J J;have⟨b,w⟩:=aR bs j B;have d:=cK w;obtain⟨F,Dr,a,k,_,_,⟨P,D,a,rfl,E,sL,F⟩,H,i⟩:=ae.later V z w;have I:=i h' N 0 6 ai;simp[-ay] at I;rw[k] at v;have tk:=Yw (l:=m) w;have i:=g.ax;have k:=y j;have z:=LP b.aP (ta m (bs.take j));have H:=n b d;have k:∀c,bD L.v c->c<h'.ax:=λc e=>by rcases X with⟨_,G⟩|⟨b2,s2,G,O,_,_⟩;rw[G] at e;have⟨_,_,_,o⟩:=e;cases o;rw[G] at e;have⟨_,_,_,o⟩:=e;cases o;exact A.wf _ _ O
  simp[l,T,v,aD v,B,I,aJ,-ay];refine aN.cut (λH=>az aV h' H/\c_ H h'.ax [P.v,D.v,dC ef b.kind,dd b.on.1,dC ef b.on.2,a.v]) ⟨(az.refl A).var _ _,h'.clock,by simp[bg]⟩ ?_;rintro H⟨I,s,z⟩;have a:=X.grow A I aj;have D:=N.trans I;have A:=I.ax;have w:=I.ok.wf _ _ z;have n:∀c,bD L.v c->h1.ax<=c:=λc u=>X.of u;refine agw V I.ok (n0:=h1.ax) (X:=h'.ax) J (λA=>D.trans' A aj (λc u e=>by have:=n c e;have:=t.ax;omega)) E a J z (λe=>aw (k _ e)) (av f) ag ag ?_;intro o H L3 i E y F U;have m1:=i.at (t:=1) (aq l);have m5:=i.at (t:=5) (aq T);have a:=i.at (t:=6) (show cg _ 6 h'.ax by simp);have N:=y.get I.ok z (λe=>aw (k _ e));have i:=y.ax;have w:az aV h0 H:=D.trans' y aj (λc u e=>by have:=n c e;have:=t.ax;omega);simp;refine agu V y.ok (n0:=h1.ax) (X:=h'.ax) J (λA=>w.trans' A aj (λc u e=>by have:=F.of e;have:=t.ax;omega)) sL F (JE b d) (Be b d) J N (λe=>(U _ e).elim (λh=>aw (k _ h)) (λh=>J)) (av E) (av a) ag ?_;intro D E A w i M z V;have n1:cg D 1 S:=w.at (aq m1);have S:bX D 5=dC ef j:=w.at (aq m5);have t:cg D 6 h'.ax:=w.at (aq a);have V:¬bD L3.v h'.ax:=λe=>(U _ e).elim (λh=>aw (k _ h)) (λh=>J);have w:=M.get y.ok N V;have V:=M.ax;simp at w;simp[t,i,w];have N:=aZ M.ok (cH.enc b.on) 0;have a:=z.grow M.ok N aj;have t:bj cH (aM E (cH.enc b.on) 0) (c6 (Z ⟨E.ax,0,K⟩) 1 1) [b.on]:=dx (bY _ _ _);have D:(aM E (cH.enc b.on) 0).ax=E.ax+1:=Q;have V:=LO 100 b.list (HP (ta m (bs.take j)) b.aP) (Be b d);have k:=JE b d;have i:∀c,bD A.v c->c<E.ax:=λc e=>by rcases z with⟨_,G⟩|⟨b2,s2,G,O,_,_⟩;rw[G] at e;have⟨_,_,_,o⟩:=e;cases o;rw[G] at e;have⟨_,_,_,o⟩:=e;cases o;exact M.ok.wf _ _ O
  have O:Y b.list*103<=300*103:=Gd _ k;refine bm.call (V:=W0 h1.ax A (Yv (ta m (bs.take j)) b) (aM E (cH.enc b.on) 0)) (by simpa [Yv] using Ag (V:=⟨Z ⟨E.ax,0,K⟩,1,1⟩) N.ok J a t (λc u e=>by have⟨_,_,_,o⟩:=u;cases o;have:=i _ e;omega) (by simp;omega)) ?_;rintro _ t⟨i,t,rfl,O,A⟩;simp[S,wj];refine⟨Y bs-(j+1),J,j+1,t,Q,B,av n1,ag,ag,?_,by rw[tk];exact O⟩;have B:az (λc=>h1.ax<=c) h1 H:=(g.trans I.cr).trans' y aj (λc _ e=>n c e);have O:=B.trans' M aj (λc _ e=>F.of e);exact(O.trans N.cr).trans' i aj (λc _ e=>z.of e)
 .have:j=Y bs:=J
  subst this;rw[mI] at X;simp[l,T,v,aD v,-ay];exact C' _ _ L (av l) (av f) q X
def j9(p:Nat):List Int:=(aA p).map λx:Nat=>(x:Int)
def Mf(p:Nat):j9 (p+1)=j9 p++[(p:Int)]:=by unfold j9;rw[so];simp
def axg(h1:aB)(S p:Nat)(m:Nat)(a:Env)(h':aB):Prop:=
 ∃(j:Nat) (L:SV),m=p-j/\j<=p/\cg a 1 S/\bX a 3=L.v/\bz a 4 j/\az aV h1 h'/\bx encI h1.ax h' L.v (j9 j)
def agv(h:cy h1){B:SV}{p:Nat}{r:Int}(k:p<1000){S F:Nat}(l:dR h1 S (aC name p r B) F)(U:cg e 1 S)(b:bX e 3=cU.v)(H:bz e 4 0)(x:∀s h' (L:SV),cg s 1 S->bX s 3=L.v->az aV h1 h'->bx encI h1.ax h' L.v (j9 p)->C (.exit 0) s h'):aN FF (.loop nf) e h1 C:=by
 refine aN.loop (axg h1 S p) ?_ (n:=p) ⟨0,cU,Q,J,U,b,H,.refl h,fc ⟨Q,Q⟩⟩;rintro m s h'⟨j,L,rfl,v,o,z,D,g,d⟩;have H:=g.ok;have G:=g.get h l;simp[aC] at G;unfold nf;by_cases I:j<p
 .have b:=bZ ((j:Int)+1) J J;simp[o,z,D,G,I];have u:=aZ H [dC ef j] 0;have V:=d.grow H u aj;have X:bj encI (aM h' [dC ef j] 0) (c6 (Z ⟨h'.ax,0,K⟩) 1 1) [(j:Int)]:=dx (E:=encI) (x:=(j:Int)) (bY _ _ _);have f:(aM h' [dC ef j] 0).ax=h'.ax+1:=Q;have H:=g.ax;have a:Y (j9 j)=j:=by simp[j9]
  obtain⟨W,A,y,M,W,_⟩:=fI (bytes:=8) u.ok (z:=[dC ef 0]) rfl V X J ai J;obtain⟨i,rfl⟩:=bx.Fj M;refine df (ak y) ?_;simp[D,b];exact⟨p-(j+1),J,j+1,i,Q,I,av o,ag,ag,(g.trans u).trans' W aj (λc A e=>aw (d.of e)),by rw[Mf];exact M⟩
 .have:j=p:=J
  subst this;simp[o,D,G];exact x _ _ L (av o) (av z) g d
def OK:∀ {w:List (Int×(Bool×Int))} {n:Int},w.Pairwise (λa b=>a.1<b.1)->w.filter (λx=>decide (x.1<n+1))=w.filter (λx=>decide (x.1<n))++w.filter (λx=>x.1==n)
 |[],_,_=>rfl
 |x::w,n,h=>by
  have⟨h1,m⟩:=ob.1 h;have d:=OK (n:=n) m;rcases Int.lt_trichotomy x.1 n with e|e|e
  rw[db (by simp;omega),db (by simp;omega),bO (by simp;omega),d];rfl
  .have no:w.filter (λx=>decide (x.1<n))=[]:=by rw[ns];intro y o;have:=h1 y o;simp;omega
   rw[db (by simp;omega),bO (by simp;omega),db (by simp;omega),d,no];rfl
  rw[bO (by simp;omega),bO (by simp;omega),bO (by simp;omega),d]
def TF:∀ {w:List (Int×(Bool×Int))} {n:Int},w.Pairwise (λa b=>a.1<b.1)->(∀x∈w,x.1≠n)/\w.filter (λx=>x.1==n)=[]\/∃x∈w,x.1=n/\w.filter (λx=>x.1==n)=[x]
 |[],_,_=>fc ⟨λx h=>by simp at h,Q⟩
 |x::w,n,h=>by
  have⟨h1,m⟩:=ob.1 h;by_cases e:x.1=n;refine ft ⟨x,iz ..,e,?_⟩;rw[db (ak e)];congr 1;rw[ns];intro y o;have:=h1 y o;simp;omega
  rcases TF (n:=n) m with⟨a,b⟩|⟨y,a,b,c⟩;refine fc ⟨λz d=>?_,by rw[bO (ak e),b]⟩;rcases bd.1 d with rfl|d;exact e;exact a z d;exact ft ⟨y,vU _ a,b,by rw[bO (ak e),c]⟩
def wJ{l w:List (Int×(Bool×Int))}(P:w.Perm l)(h:w.Pairwise (λa b=>a.1<b.1))(h0:∀x∈l,0<=x.1):∀n:Nat,fZ l n=(w.filter (λx=>decide (x.1<(n:Int)))).map (·.2)
 |0=>by
  have:w.filter (λx=>decide (x.1<((0:Nat):Int)))=[]:=by rw[ns];intro y m;have:=h0 y (P.subset m);simp;omega
  rw[this];rfl
 |n+1=>by
  have e:((n+1:Nat):Int)=(n:Int)+1:=J
  rw[MC,wJ P h h0 n,e,OK h,aW];congr 1;rcases TF (n:=(n:Int)) h with⟨a,b⟩|⟨x,a,b,c⟩;rw[b,TR λi x u=>a x (P.symm.subset (cK u))];rfl
  .rw[c];have s:∀y∈l,y.1=(n:Int)->y=x:=λy m e=>by have:y∈w.filter (λx=>x.1==(n:Int)):=EG.2 ⟨P.symm.subset m,ak e⟩;rw[c] at this;simpa using this
   have d:fw l n=Z x.2:=by
    unfold fw;cases d:l.find? λx=>x.1==(n:Int) with
    |none=>have:=oc.1 d x (P.subset a);simp at this;omega
    |some y=>
     have h1:=List.mem_of_find?_eq_some d;have o:=List.find?_some d;rw[s y h1 (ak o)];rfl
   rw[d];rfl
def adF{l w:List (Int×(Bool×Int))}(S:aeK l w)(h0:∀x∈l,0<=x.1/\x.1<n):w.map (·.2)=fZ l n:=by
 rw[wJ S.1 S.2 (λx d=>(h0 x d).1) n];congr 1
 symm
 rw[List.filter_eq_self];intro x d;have:=h0 x (S.1.subset d);simpa using this.2
inductive Lc where
 |B
 |P (i:Nat)
 |L (i:Nat)
 |T (i:Nat)
 |R (i j:Nat)
 |X (i j:Nat)
def Lc.mv(i:Nat):Lc->Lc
 |.B=>.B
 |.P _=>.P i
 |.L _=>.L i
 |.T _=>.T i
 |.R _ j=>.R i j
 |.X _ j=>.X i j
def eo.auV(w:eo cH h A vs):ae vR 2 h A.v vs:=w.view rfl (λi x y a b=>by rw[a] at b;cases b;rfl)
def du{E:ly G}{w:List G}(a:bx E n0 h L.v w):eo E h L w:=by rcases a with⟨rfl,e⟩|⟨b,s,e,d,m,o⟩;simp at e;exact⟨e.2.1,fc ⟨e.1,e.2.2,Q⟩⟩;simp at e;exact⟨e.2.1,ft ⟨b,E.sz,s,[],e.1,by simp[e.2.2],ak d,ft Q⟩⟩
def Fp{E:ly G}{w:List G}(a:vb E n0 h L.v w):eo E h L w:=by rcases a with a|⟨rfl,b,s,e,d,m⟩;exact du a;simp at e;exact⟨e.2.1,ft ⟨b,0,s,[],e.1,by simp[e.2.2],ak d,fc Q⟩⟩
def vb.sv{E:ly G}{v:aa}{w:List G}(a:vb E n0 h v w):∃L:SV,v=L.v:=by rcases a with a|⟨_,b,s,e,_,_⟩;exact bx.Fj a;exact⟨⟨Z ⟨b,0,K⟩,0,0⟩,e⟩
def vb.of{G:Type}{E:ly G}{n0:Nat}{h:aB}{v:aa}{w:List G}(a:vb E n0 h v w){c:Nat}(o:bD v c):n0<=c:=by rcases a with a|⟨_,b,s,rfl,_,d⟩;exact bx.of a o;have⟨_,_,_,e⟩:=o;cases e;exact d
def Hi{E:ly G}(m:cy h){bytes:Nat}{z:List aa}{d:aa}{w:List G}(C:Y z=E.sz)(o:bj E h d w)(s:Y w<1000000)(u:bytes<=1000):∃(L:SV) (h':aB),gi (aM h [] 0) z bytes b9 (c6 (Z ⟨h.ax,0,K⟩) 0 0) d=Z (L.v,h')/\vb E h.ax h' L.v w/\az aV h h':=by
 have d:=aZ m [] 0;have⟨v,h',e,a,_,g⟩:=uH (bytes:=bytes) d.ok C (SO (fE _)) (o.cr m d) (ak s) u d.ax;obtain⟨L,rfl⟩:=vb.sv a;exact⟨L,h',e,ak a,d.trans' g aj (λx D e=>by have⟨_,_,_,e⟩:=e;cases e;omega)⟩
def fM(f:Int->Int)(l:List (Int×(Bool×Int))):List (Int×(Bool×Int)):=l.filterMap λe=>if 0<=f e.1 then Z (f e.1,e.2) else K
def Lz{l:List (Int×(Bool×Int))}{x:Int×(Bool×Int)}(h:l[j]?=Z x):fM f (l.take (j+1))=fM f (l.take j)++(if 0<=f x.1 then [(f x.1,x.2)] else []):=by unfold fM;rw[mw,h,Eg];congr 1;by_cases e:0<=f x.1<;>simp[e]
def KrL:List Nat:=[15,16,17,18,64,65,66,67,68,69,70,71,72,73,74,75,76,77,78,79,80,81,82,83,84,85,86,87]
def aw5(h:aB)(ats:List Int)(a:List (Int×(Bool×Int)))(e:Env)(m:Nat)(b:Env)(h':aB):Prop:=
 ∃(j:Nat) (L:SV),m=Y a-j/\j<=Y a/\aH KrL e b/\bz b 64 j/\bX b 15=L.v/\az aV h h'/\bx fG h.ax h' L.v (fM (mz ats) (a.take j))
def aco(I:cy h){n dA d8 c8 k o D c:Nat}{b:List Int}(E:n<=1000)(W:dR h dA (encI.flat ats) o)(T:Y ats=n)(h8:h.tr.get d8=Z (.ch (zW.flat ws) b9 c D))(E:ws[k]?=Z M)(E':k<n)(N:ae nR 1 h M.v b)(S:∀p∈b,0<=p/\p<n)(P:ae vR 2 h A.v row)(z:Y row=Y b)(w:Y b<1000000)(H:bX e 5=c6 (Z ⟨dA,0,K⟩) n n)(q:bX e 8=c6 (Z ⟨d8,0,K⟩) n c8)(w:bz e 11 k)(i:bX e 15=cU.v)(y:bX e 62=A.v)(O:bz e 63 (Y row))(t:bz e 64 0)(C':∀X h' L,az aV h h'->aH KrL e X->bX X 15=SV.v L->bx fG h.ax h' (SV.v L) (fM (mz ats) (b.zip row))->C (.exit 6) X h'):aN FF (.loop rU) e h C:=by
 have D:=ae.len P;have Sz:=ae.len N;have u0:Y (b.zip row)=Y row:=by simp;omega
 refine aN.loop (aw5 h ats (b.zip row) e) ?_ (n:=Y (b.zip row)) ⟨0,cU,Q,J,aH.refl _ _,t,i,.refl I,fc ⟨Q,Q⟩⟩;rintro m X h'⟨j,L,rfl,d,z,d,T,g,F⟩;have q5:=z.at H;have X:=z.at q;have Bj:=z.at w;have f:=z.at y;have s:=z.at O;unfold rU;by_cases y:j<Y row
 .have q:=bZ ((j:Int)+1) J J;have⟨v,l⟩:=aR row j y;have⟨a,B⟩:=aR b j;have⟨O,H⟩:=S a (cK B);obtain⟨u,rfl⟩:∃u:Nat,a=u:=⟨a.toNat,J⟩;have Nn:u<n:=J
  obtain⟨H,i,H,DK,_,_,rfl,o1,t⟩:=ae.later I P l;obtain⟨P,O,w,hwa,_,_,rfl,w,H⟩:=ae.later I N B;have S:=t h' g 0 2 ai;have O:=H h' g 0 1 ai;have N:=g.get I W;have W:=g.get I h8;have⟨t,I⟩:=aR ats u;have r:=nj N I;have i:=tR W E;have E:j<Y b:=J
  have P:=g.bU o1;have G:=g.bU w;have H:=g.ok.bU N;have c:=g.ok.bU W;simp[-ay] at S O i;rw[hwa,Sz] at i;simp at f T;rw[DK,D] at f;have D:=Lz (f:=mz ats) (l:=b.zip row) (x:=((u:Int),v)) (by rw[fi];exact⟨B,l⟩);have w:mz ats (u:Int)=t:=by simp[mz,I]
  dsimp only at D;rw[w] at D;by_cases W:0<=t
  .rw[bH W] at D;simp[q5,X,Bj,T,f,s,d,y,S,O,i,r,E',Nn,E,W,-ay,aJ,cw,bh,P,G,H,c];have w:az aV h' (put (aM h' [dd b9,dC ef 0] 0) h'.ax 0 [dd b9,dC ef 0] [dd v.1,dC ef v.2] 0):=(az.refl g.ok).var _ _;have⟨U,B⟩:∃U,U=put (aM h' [dd b9,dC ef 0] 0) h'.ax 0 [dd b9,dC ef 0] [dd v.1,dC ef v.2] 0:=⟨_,Q⟩;have QX:U.ax=h'.ax+1:=by rw[B];rfl
   rw[<-B] at w⊢;have I:=g.trans w;have N:=aZ I.ok (fG.enc (t,v)) 0;have Jz:=(F.grow g.ok w aj).grow I.ok N aj;have hw3:bj fG (aM U (fG.enc (t,v)) 0) (c6 (Z ⟨U.ax,0,K⟩) 1 1) [(t,v)]:=dx (bY _ _ _);have t:Y (fM (mz ats) ((b.zip row).take j))<=j:=wV (rf _ _) (by simp;omega);have w:=I.ax;obtain⟨w,t,B,t,w,Lh⟩:=fI (bytes:=24) N.ok (z:=[dC ef 0,dd b9,dC ef 0]) rfl Jz hw3 J ai (by simp;omega);rw[QX] at B;refine df (ak B) ?_;obtain⟨V,rfl⟩:=bx.Fj t;simp[d,q];refine⟨Y (b.zip row)-(j+1),J,j+1,V,Q,J,?_,ag,ag,(I.trans N).trans' w aj (λx l e=>aw (F.of e)),by rw[D];exact t⟩
   exact au
  .rw[bM W,ye] at D;simp[q5,X,Bj,T,f,s,d,y,S,O,i,r,E',Nn,E,W,q,-ay,aJ,cw,bh,P,G,H,c];refine⟨Y (b.zip row)-(j+1),J,j+1,L,Q,J,?_,ag,av T,g.trans ((az.refl g.ok).var _ _),by rw[D];exact F.grow g.ok ((az.refl g.ok).var _ _) aj⟩
   exact au
 .have:j=Y (b.zip row):=J
  subst this;rw[mI] at F;simp only[u0] at d;simp[s,d];exact C' _ _ L g (z.set) (av T) F
def J3{E:ly G}{w:List G}(a:bx E n0 h L.v w)(e:fy L=Z c):n0<=c:=by rcases a with⟨_,d⟩|⟨b,s,d,o,_,m⟩;simp at d;simp[fy,d] at e;simp at d;rw[cj d.1] at e;cases e;exact m
def KvL:List Nat:=[20,97,98,99,100,101,102,103,104,105,106,107,108,109,110,111,112,113,114,115,116]
def GZ(y:YB):List aa:=[y.P.v,y.L.v,dC ef y.kind,dd y.on.1,dC ef y.on.2,y.T.v]
def qf(y:YB)(i:Nat)(d:Int)(F:SV)(row:List (Bool×Int)):YB:= {y with ps:=y.ps.set i (⟨d,row⟩,F)}
def aw4(h:aB)(n0:Nat)(B:SV)(ys:List YB)(y:YB)(k i X s:Nat)(a:Int)(vs:List (Bool×Int))(e:Env)(m:Nat)(b:Env)(h':aB):Prop:=
 ∃(j:Nat) (F:SV),m=Y vs-j/\j<=Y vs/\aH KvL e b/\bz b 97 j/\bx cH h.ax h' F.v (vs.take j)/\cM h h' n0 B (ys.set k (qf y i a cU [])) B (ys.set k (qf y i a F (vs.take j)))
def Yg(a:cy h)(sO:n0<=h.ax){B:SV}{k i X s d f:Nat}{E:Int}{w:List (Int×(Bool×Int))}(T:y.ps[i]?=Z q)(S:k<Y ys)(A:FZ h n0 B (ys.set k (qf y i E cU [])))(P:dR h X (GZ y) s)(L:¬cm B (ys.set k (qf y i E cU [])) X)(l:h.tr.get d=Z (.ch (fG.flat w) b9 3 f))(v:¬cm B (ys.set k (qf y i E cU [])) d)(N:Y w<1000000)(p:cg e 12 X)(H:bz e 13 i)(W:bX e 95=c6 (Z ⟨d,0,K⟩) (Y w) (Y w))(b:bz e 96 (Y w))(t:bz e 97 0)(C':∀D h' F,aH KvL e D->cM h h' n0 B (ys.set k (qf y i E cU [])) B (ys.set k (qf y i E F (w.map (·.2))))->C (.exit 8) D h'):aN FF (.loop nW) e h C:=by
 have N:=(cR.mp T).1;have hvl:Y (w.map (·.2))=Y w:=ag
 refine aN.loop (aw4 h n0 B ys y k i X s E (w.map (·.2)) e) ?_ (n:=Y (w.map (·.2))) ⟨0,cU,Q,J,aH.refl _ _,t,fc ⟨ag,Q⟩,.refl A a⟩;rintro m D h'⟨j,F,rfl,d,f,D,I,T⟩;have Jp:=f.at p;have Nq:=f.at H;have q95:=f.at W;have ZE:=f.at b;have A:=T.g;have G:=A.ok;unfold nW;by_cases t:j<Y w
 .have wj:=bZ ((j:Int)+1) J J;have⟨x,hx⟩:=aR w j;have U:=A.get a l v;have rx:=aoF U hx;have n:(ys.set k (qf y i E F ((w.map (·.2)).take j)))[k]?=Z (qf y i E F ((w.map (·.2)).take j)):=by rw[fq,bH Q,bH S]
  have p:=T.w.at n;have H:(qf y i E F ((w.map (·.2)).take j)).ps[i]?=Z (⟨E,(w.map (·.2)).take j⟩,F):=by simp[qf,N]
  have W:eo iE h' y.P (y.ps.set i (⟨E,(w.map (·.2)).take j⟩,F)):=p.P;obtain⟨b,g,o,B,r,B,S,dM,l,eI⟩:=W.el H;have S:=l 1 1 ai;simp[-ay] at S;have p:=W.len;simp at p;have O:=A.get a P L;have d:=O;simp[GZ] at d;rw[r,p] at d;have oX:=G.bU O;have l:=G.bU B;have W:=G.bU U;have v:=G.st _ _ _ _ _ O;have v:(qf y i E F ((w.map (·.2)).take j)).loc .P=Z b:=cj r;have nXb:¬X=b:=λe=>by rcases T.s b ⟨Z (k,.P),by rw[cJ n];exact v⟩ with h1|h1;exact L (e▸h1);have:=a.wf _ _ P;omega
  have hif:i<Y y.ps:=N;simp[Jp,Nq,q95,ZE,D,t,rx,S,hif,-ay,aJ,cw,bh,dO,oX,l,W,aD d,aK];have⟨d,L⟩:∃d,d=tick (put (aM h' [dC ef 0,dd b9,dC ef 0] 0) h'.ax 0 [dC ef 0,dd b9,dC ef 0] [dC ef x.1,dd x.2.1,dC ef x.2.2] 0):=⟨_,Q⟩;have W:az aV h' d:=by rw[L];exact((az.refl G).var _ _).tick
  have aAo:d.ax=h'.ax+1:=by rw[L];rfl
  rw[<-L];have N:=aZ W.ok (cH.enc x.2) 0;have Jz:=(I.grow G W aj).grow W.ok N aj;have hw3:bj cH (aM d (cH.enc x.2) 0) (c6 (Z ⟨d.ax,0,K⟩) 1 1) [x.2]:=dx (bY _ _ _);have S:=A.ax;have A:Y ((w.map (·.2)).take j)=j:=by simp;omega
  have⟨d,S,M,t,L,Lh⟩:=fI (bytes:=16) N.ok (z:=[dd b9,dC ef 0]) rfl Jz hw3 J ai (by simp;omega);rw[aAo] at M;refine kW (ak M) ?_;obtain⟨V,rfl⟩:=bx.Fj t;have d:∀z,bD F.v z->h.ax<=z:=λz u=>I.of u;have A:¬bD F.v b:=λu=>by have:=T.w.Gj n .P (.R i) b v (by rw[YB.jM H];exact dV u);cases this
  have I:X<h.ax:=a.wf _ _ P;have P:az (bD F.v) h' S:=(W.cr.trans N.cr).trans' L aj aj;have I:=P.get G O (λh=>aw (d X h));have W:=P.get G B A;simp[GZ] at I;rw[r,p] at I;have r:s<=h'.clock+1:=J
  have a:=dM 1 1 ai;simp at a;simp[I,r,hif,W,a,D,wj];have d:az (· =b) S (put S b (i*2+1) g [c6 V.a V.l V.c] o):=aX L.ok W;have W:(w.map (·.2)).take (j+1)=(w.map (·.2)).take j++[x.2]:=by rw[mw,gu,hx];rfl
  have B:=eI (⟨E,(w.map (·.2)).take (j+1)⟩,V) 1 [V.v] ag rfl (put S b (i*2+1) g [c6 V.a V.l V.c] o) ⟨_,bc _ _ _ _ _ _⟩;rw[<-W] at t;have A:∀z,fy V=Z z->h'.ax<=z:=λz u=>by rcases t with⟨_,I⟩|⟨p,b,I,S,_,_⟩;simp at I;simp[fy,I] at u;simp at I;rw[cj I.1] at u;cases u;have:=Lh _ (fK I.1);simp at this;omega
  have b:=t.grow L.ok d (λz u e=>by have:=A z (dV u);have:=l.lt;omega);have N:=T.row (p':=(⟨E,(w.map (·.2)).take (j+1)⟩,V)) sO n H (P.trans' d (λz _ u=>fc ⟨.R i,ft Q,by rw[YB.jM H];exact dV u⟩) (λz _ e=>fc ⟨.P,fc Q,by rw[e];exact v⟩)) B (du b) (λc I=>ft (A c I));refine⟨Y (w.map (·.2))-(j+1),J,j+1,V,Q,J,?_,ag,b,?_⟩
  .exact au
  simpa [qf] using N
 .have:j=Y (w.map (·.2)):=J
  subst this;rw[mI] at T;simp only[hvl] at D;simp[ZE,D];exact C' _ _ F (f.set) T
structure JW(f:Int->Int)(pk:List Int)(N:Nat):Prop where
 nd:pk.Nodup
 inj:∀a∈pk,∀b∈pk,0<=f a->f a=f b->a=b
 lt:∀a∈pk,f a<N
def nM(f:Int->Int)(N:Nat)(pk:List Int)(p:GP):GP:=⟨p.dst,fZ (fM f (pk.zip p.row)) N⟩
def JW.keys(c:JW f pk N)(E:Y row=Y pk):Inj (Y (fM f (pk.zip row))) (fM f (pk.zip row))/\∀x∈fM f (pk.zip row),0<=x.1/\x.1<N:=by
 have g:∀x∈pk.zip row,x.1∈pk:=λx d=>(b8 (a:=x.1) (b:=x.2) d).1;have D:(pk.zip row).map (·.1)=pk:=List.map_fst_zip J;have C:(pk.zip row).Pairwise (λa b=>a.1≠b.1):=by have:=c.nd;rw[<-D] at this;exact gw.1 this
 have u:(fM f (pk.zip row)).Pairwise (λa b=>a.1≠b.1):=by unfold fM;rw[List.pairwise_filterMap];refine C.imp_of_mem fun {a b} ha hb eF x d y m=>?_;split at d;split at m;cases d;cases m;rename_i h1 _;exactλe=>eF (c.inj _ (g a ha) _ (g b hb) h1 e);cases m;cases d
 refine⟨λp q o s e=>?_,λx d=>?_⟩;unfold kAt at e;rw[iK o,iK s] at e;simp at e;rcases Nat.lt_trichotomy p q with h|h|h;exact absurd e ((gY.1 u) p q o s h);exact h;exact absurd e.symm ((gY.1 u) q p s o h);unfold fM at d;have⟨y,m,e⟩:=List.mem_filterMap.1 d;split at e;cases e;exact⟨by assumption,c.lt _ (g y m)⟩;cases e
def FZ.j8{B:SV}(w:FZ h n0 B ys)(d:cy h)(e:cm B ys c):c<h.ax:=by have⟨l,e⟩:=e;exact w.lt d e
def agk(G:cy h)(H:n0<=h.ax){B:SV}{b:SV}{w:List (Int×(Bool×Int))}(W:FZ h n0 B ys)(U:ys[k]?=Z y)(a:y.ps[j]?=Z q)(M:dR h X (GZ y) s)(t:¬cm B ys X)(L:b.v=c6 K 0 0/\w=[]\/∃d n,b.v=c6 (Z ⟨d,0,K⟩) (Y w) (Y w)/\h.tr.get d=Z (.ch (fG.flat w) b9 3 n)/\¬cm B ys d)(N:Y w<1000000)(D:cg e 12 X)(E:bz e 13 j)(m:bX e 15=b.v)(l:∀b h' F,aH KpT e b->cM h h' n0 B ys B (ys.set k (qf y j q.1.dst F (w.map (·.2))))->C .normal b h'):aN FF Rf e h C:=by
 have p:=(cR.mp a).1;have v:=(cR.mp U).1;have I:=W.at U;obtain⟨b,g,o,r,r,f,z,z,A,A⟩:=I.P.el a;have i:=I.P.len;have I:=M;simp[GZ] at I;rw[r,i] at I;have i:=z 1 1 ai;simp at i;have z:y.loc .P=Z b:=cj r;have r:az (· =b) h (put h b (j*2+1) g [c6 K 0 0] o):=aX G f;have V:=A (⟨q.1.dst,[]⟩,cU) 1 [c6 K 0 0] ag rfl (put h b (j*2+1) g [c6 K 0 0] o) ⟨_,bc _ _ _ _ _ _⟩;have u:cM h _ n0 B ys B (ys.set k (qf y j q.1.dst cU [])):=(cM.refl W G).row H U a (r.cX (λx _ e=>fc ⟨.P,fc Q,by rw[e];exact z⟩)) V (eo.nil _ _) (λc b=>by simp[fy,cU] at b);have H:∀c,c<h.ax->¬cm B ys c->¬cm B (ys.set k (qf y j q.1.dst cU [])) c:=λc b b h1=>(u.s c h1).elim b J;have z:=u.g.get G M t;unfold Rf;rcases L with⟨B,rfl⟩|⟨d,n,B,b,n⟩
 .rw[B] at m;simp[D,E,m,I,p,f,i];rw[CP];unfold nW;simp;refine l _ _ cU ?_ u
  repeat (refine aH.set ?_)
  exact aH.refl _ _
 .rw[B] at m;have B:=u.g.get G b n;simp[D,E,m,I,p,f,i];refine Yg u.g.ok (aw u.g.ax) a v u.w z (H X (G.wf _ _ M) t) B (H d (G.wf _ _ b) n) N (by simp[D]) (by simp[E]) ag ag ag ?_;intro E E F E D;simp;refine l _ _ F (aH.trans ?_ (E.cX)) (u.trans D)
  repeat (refine aH.set ?_)
  exact aH.refl _ _
structure KZ(h1:aB)(own:Nat->Prop)(n dA d8 n8:Nat)(ats:List Int)(ws:List SV)(ah:List (List Int)):Prop where
 nn:n<=1000
 hA:c_ h1 dA (encI.flat ats)
 al:Y ats=n
 acc:jm encI n8 h1 d8 ws ah
 nA:¬own dA
 low:∀b,own b->b<n8
 rows:Hd n ah
 short:∀ps∈ah,Y ps<50
def KZ.at{a:Nat->Prop}(k:KZ h1 a n dA d8 n8 ats ws ah)(d:cy h1)(g:az a h1 h'):KZ h' a n dA d8 n8 ats ws ah:=by have⟨s,m⟩:=k.hA;exact⟨k.nn,⟨s,g.get d m k.nA⟩,k.al,k.acc.grow d g (λb o h=>aw (k.low b h)),k.nA,k.low,k.rows,k.short⟩
def aqw(o:aB)(n0:Nat)(B:SV)(ys:List YB)(y:YB)(k:Nat)(s:GP->GP)(e:Env)(m:Nat)(a:Env)(h':aB):Prop:=
 ∃(j:Nat) (d:List (GP×SV)),m=Y y.ps-j/\j<=Y y.ps/\Y d=j/\aH Z8 e a/\bz a 56 j/\cM o h' n0 B ys B (ys.set k {y with ps:=d++y.ps.drop j})/\d.map (·.1)=((y.ps.map (·.1)).take j).map s
def Yf{h1 b:aB}(eY:cy h1){B0 B:SV}(ZO:KZ h1 (cm B0 iU) n dA d8 n8 ats ws ah)(p:cM h1 b n0 B0 iU B ys)(sO:n0<=h1.ax)(hy:ys[k]?=Z y)(hX:dR b X (GZ y) s)(nX:¬cm B ys X)(Gi:ws[k]?=Z M)(Bg:ah[k]?=Z pk)(jH:∀q∈y.ps,Y q.1.row=Y pk)(amv:JW (mz ats) pk N)(hN:N<=1000)(om:Y y.ps<1000000)(hkn:k<n)(f5:bX e 5=c6 (Z ⟨dA,0,K⟩) n n)(f8:bX e 8=c6 (Z ⟨d8,0,K⟩) n n)(f11:bz e 11 k)(f12:cg e 12 X)(f54:bX e 54=y.P.v)(f55:bz e 55 (Y y.ps))(f56:bz e 56 0)(C':∀e' h' qs,aH Z8 e e'->cM b h' n0 B ys B (ys.set k {y with ps:=qs})->qs.map (·.1)=(y.ps.map (·.1)).map (nM (mz ats) N pk)->C (.exit 4) e' h'):aN FF (.loop yv) e b C:=by
 have ZE:=p.g.ok;have lnS:=p.g.ax;have kj:=(cR.mp hy).1;have Y0:=p.w.at hy;have fe:=Y0.P.len;have self:ys.set k {y with ps:=[]++y.ps.drop 0} =ys:=by refine Bc λm=>?_;rw[fq];by_cases e:k=m;subst e;rw[bH Q,bH kj,hy];rfl;rw[bM e]
 refine aN.loop (aqw b n0 B ys y k (nM (mz ats) N pk) e) ?_ (n:=Y y.ps) ⟨0,[],Q,J,Q,aH.refl _ _,f56,by rw[self];exact .refl p.w ZE,ag⟩;rintro m e' h'⟨j,d,rfl,hj,hd,l,q56,T,Md⟩;have g':=T.g;have W:=g'.ok;have ln:=g'.ax;have q5:=l.at f5;have q8:=l.at f8;have Bj:=l.at f11;have Jp:=l.at f12;have U:=l.at f54;have q55:=l.at f55;have B':=ZO.at eY (p.trans T).g;have cN:=g'.get ZE hX nX;have lX:=ZE.wf _ _ hX;rw[acr];by_cases bp:j<Y y.ps
 .have wj:=bZ ((j:Int)+1) J J;have⟨q,xI⟩:=aR y.ps j bp;have hq:=iN (qs:=y.ps) hd;rw[xI] at hq;have⟨H,O⟩:∃H:YB,H= {y with ps:=d++y.ps.drop j} :=⟨_,Q⟩;rw[<-O] at T;have yi:H.ps[j]?=Z q:=by rw[O];exact hq
  have A8:(ys.set k H)[k]?=Z H:=by rw[fq,bH Q,bH kj]
  have hd1:GZ H=GZ y:=by rw[O];rfl
  have Y1:=T.w.at A8;have hql:=jH q (cK xI);have my:=(Y1.ps q (cK yi)).auV;have hP1:eo iE h' y.P (d++y.ps.drop j):=by have:=Y1.P;rw[O] at this;exact this
  have⟨b',g,o',s',gy,hb,hjA,dM,cV,eI⟩:=hP1.el hq;have afq:=hP1.len;have Uf:Y (d++y.ps.drop j)=Y y.ps:=by simp;omega
  have r0:=cV 0 2 ai;simp[-ay] at r0;simp at U;rw[gy,afq,Uf] at U;have pD:=ae.len my;simp[U,q55,q56,bp,r0,-ay,aJ];refine aN.cut (λh1=>az aV h' h1) ((az.refl W).var _ _) ?_;intro h2 S;have T2:=T.cr S;have i:=ZO.at eY (p.trans T2).g;have⟨o,KT⟩:=i.hA;have⟨s8,h82⟩:=i.acc.ch;have nJ:=i.short pk (cK Bg);refine aco S.ok (n:=n) (c8:=n) (k:=k) (A:=q.2) i.nn KT i.al h82 Gi hkn (PZ i.acc Gi Bg) ((i.rows.row k pk Bg).2) (my.mono W S λ_ _ h=>h) hql J (av q5) (av q8) (av Bj) (by simp[cU]) ag (av pD) ag ?_;intro e3 z L g3 K3 D AW;have t:az aV h' z:=S.trans g3;have T3:=T2.cr g3;have m12:=K3.at (t:=12) (aq Jp);have m13:bX e3 13=dC ef j:=K3.at ag;have m56:=K3.at (t:=56) (aq q56);have K3':aH Z8 e e3:=by
   refine aH.trans ?_ (K3.cX)
   exact au
  have l3:=t.ax;have l2:=S.ax;have⟨aw1,Y'⟩:=amv.keys hql;have hrn:Y (fM (mz ats) (pk.zip q.1.row))<50:=Nat.lt_of_le_of_lt (rf _ _) (by simp;omega);have uU:∀c,h'.ax<=c->¬cm B (ys.set k H) c:=λc hc h=>aw (T.w.j8 W h)
  have nX1:¬cm B (ys.set k H) X:=λh=>(T.s X h).elim nX J;have M':∀(E:aB)(f:Env)(w:List (Int×(Bool×Int)))(Q2:bJ->Env->aB->Prop),az (λx=>h'.ax<=x) z E->w.map (·.2)=fZ (fM (mz ats) (pk.zip q.1.row)) N->Y w<50->(L.v=c6 K 0 0/\w=[]\/∃d sd,L.v=c6 (Z ⟨d,0,K⟩) (Y w) (Y w)/\E.tr.get d=Z (.ch (fG.flat w) b9 3 sd)/\¬cm B (ys.set k H) d)->cg f 12 X->bz f 13 j->bX f 15=L.v->bz f 56 j->aH Z8 e f->(∀u G,bz u 56 j->aH Z8 e u->(∃a,Y a=j+1/\cM b G n0 B ys B (ys.set k {y with ps:=a++y.ps.drop (j+1)})/\a.map (·.1)=((y.ps.map (·.1)).take (j+1)).map (nM (mz ats) N pk))->Q2 .normal u G)->aN FF Rf f E Q2:=by
   intro E f w Q2 A hxv Bh hLx k12 k13 aBl k56 K4 V;have r:=T3.go A (λc hc=>⟨J,uU c hc⟩);refine agk A.ok (aw r.g.ax) r.w A8 yi (by rw[hd1];exact A.get t.ok (t.get W cN) J) nX1 hLx J k12 k13 aBl ?_;intro u G F P T6;refine V u G (P.at k56) (K4.trans (P.cX)) ⟨d++[(⟨q.1.dst,fZ (fM (mz ats) (pk.zip q.1.row)) N⟩,F)],av hd,?_,?_⟩
   .have:=r.trans T6;rw[wN,hxv] at this;have I:qf H j q.1.dst F (fZ (fM (mz ats) (pk.zip q.1.row)) N)= {y with ps:=(d++[(⟨q.1.dst,fZ (fM (mz ats) (pk.zip q.1.row)) N⟩,F)])++y.ps.drop (j+1)} :=by rw[O];unfold qf;dsimp only;rw[set_drop hd xI]
    rw[I] at this;exact this
   rw[aW,Md,mw,gu,xI,aW];rfl
  have fin:∀(u:Env)(G:aB),bz u 56 j->aH Z8 e u->(∃a,Y a=j+1/\cM b G n0 B ys B (ys.set k {y with ps:=a++y.ps.drop (j+1)})/\a.map (·.1)=((y.ps.map (·.1)).take (j+1)).map (nM (mz ats) N pk))->∃m,m<Y y.ps-j/\aqw b n0 B ys y k (nM (mz ats) N pk) e m (Tr.set (Tr.set u 117 (dC ef ((j:Int)+1))) 56 (dC ef ((j:Int)+1))) G:=by intro u G r P ⟨a,V,a4,a5⟩;exact⟨Y y.ps-(j+1),J,j+1,a,Q,bp,V,aH.set (aH.set P),ag,a4,a5⟩
  simp;rcases akn AW with⟨I,e0⟩|⟨dS,sd,I,hdS,hdn,eF⟩;rw[I] at D;simp[D];refine bm.call (V:=λ_ E=>E=z) (ak (ahy z)) ?_;rintro v E rfl;simp;refine M' E _ [] _ (.refl t.ok) (by rw[e0];unfold fZ;simp[fw]) ag (fc ⟨I,Q⟩) (by simp[m12]) (by simp[m13]) (by rw[I];simp[D]) (av m56) (aH.set (aH.set K3')) ?_;intro u G r P V;simp[r,wj];exact fin u G r P V;rw[I] at D;simp[D];refine bm.call (V:=λ_ E=>∃w,aeK (fM (mz ats) (pk.zip q.1.row)) w/\Y w=Y (fM (mz ats) (pk.zip q.1.row))/\az (· =dS) z E/\∃s',E.tr.get dS=Z (.ch (fG.flat w) b9 3 s')) (ak (Zr t.ok hdS eF hrn (λx hx=>⟨(Y' x hx).1,aw ((Y' x hx).2)⟩) aw1)) ?_;rintro v E⟨w,S',Bh,A,sd4,hd4⟩;simp;refine M' E _ w _ (A.cX (λx _ e=>J)) (adF S' Y') J (ft ⟨dS,sd4,by rw[Bh];exact I,hd4,uU dS J⟩) (by simp[m12]) (by simp[m13]) (by rw[I];simp[D]) (av m56) (aH.set (aH.set K3')) ?_;intro u G r P V;simp[r,wj];exact fin u G r P V
 .have:j=Y y.ps:=J
  subst this;rw[cG,ye] at T;simp[q55,q56];exact C' _ _ d (l.set) T (by rw[Md,nz ag])
structure EB(bs:List GB):Prop where
 n1:1<=Y bs
 n50:Y bs<50
 kind:∀b∈bs,(b.kind=1/\b.to=[])\/(b.kind=2/\∃t,b.to=[t])\/(b.kind=3/\∃t u,b.to=[t,u]/\t≠u)
 to:∀b∈bs,∀t∈b.to,1<=t/\t<Y bs
 rows:∀(i:Nat)(b:GB),bs[i]?=Z b->∀p∈b.aP,Y p.row=Y (aI bs i)
 pl:∀b∈bs,Y b.aP<100000
def EB.nd(w:EB bs){b:GB}(h:b∈bs):b.to.Nodup:=by rcases w.kind b h with⟨_,e⟩|⟨_,t,e⟩|⟨_,t,u,e,d⟩<;>rw[e]<;>simp[*]
def EB.two(w:EB bs){b:GB}(h:b∈bs):Y b.to<=2:=by rcases w.kind b h with⟨_,e⟩|⟨_,t,e⟩|⟨_,t,u,e,_⟩<;>rw[e]<;>simp
def EB.tok(w:EB bs):TOk (cx bs):=by
 have u:Y (cx bs)=Y bs:=by simp[cx]
 have:=w.n50;refine⟨J,λo d=>?_,λo d t s=>?_⟩<;>obtain⟨b,m,rfl⟩:=iT.1 d;exact w.two m;have:=w.to b m t s;omega
def EB.ends(w:EB bs):kg bs:=⟨aw w.n50,λ_ h=>w.two h,λb h t d=>aw (w.to b h t d)⟩
def abl(d:l.Nodup)(h0:∀t∈l,0<=t)(u:Nat):(l.map u1).count u=if(u:Int)∈l then 1 else 0:=by
 induction l with
 |nil=>simp
 |cons x w m=>
  have⟨h1,o⟩:=List.nodup_cons.1 d;have:=m o (λt s=>h0 t (vU _ s));have D:=h0 x (iz ..);rw[zZ,List.count_cons,this];by_cases e:x=u
  subst e;simp[h1]
  .have d:¬x.toNat=u:=J
   have C:¬(u:Int)=x:=λh=>e h.symm;simp[d,C]
def EB.rowOf{bs:List GB}(w:EB bs)(u:Nat):∀k,k<=Y bs->Edge.rowOf (cx bs) u k=jO bs k u
 |0,_=>rfl
 |k+1,h=>by
  have⟨b,d⟩:=aR bs k;have m:=cK d;unfold Edge.rowOf;rw[EB.rowOf w u k J];unfold jO;rw[so,e6,aW];congr 1;have s:((cx bs)[k]?).getD []=b.to:=by unfold cx;rw[gu,d];rfl
  rw[s,abl (w.nd m) (λt o=>aw (w.to b m t o))];by_cases e:(u:Int)∈b.to;simp[d,e];simp[d,e]
def EB.ahead(w:EB bs)(C:k<Y bs):(Edge.dm (cx bs))[k]?=Z (aI bs k):=by
 have s:Y (cx bs)=Y bs:=by simp[cx]
 have⟨D,d⟩:=aR (Edge.dm (cx bs)) k (by rw[Edge.iV];omega);rw[d,Edge.aba (λo m t u=>aw (w.tok.to o m t u)) d,s,w.rowOf k _ (fE _)];rfl
def eC(bs:List GB)(b:Int):(aI bs b).Nodup:=by unfold aI jO;exact(gw.2 ((List.nodup_range.filter _).imp λh e=>h J))
def cu{b a:Int} :a∈aI bs b↔ ∃i:Nat,a=i/\∃x,bs[i]?=Z x/\b∈x.to:=by unfold aI jO;simp only[iT,EG,QM,decide_eq_true_eq];constructor;rintro⟨i,⟨_,h⟩,rfl⟩;exact⟨i,Q,h⟩;rintro⟨i,rfl,x,h1,d⟩;exact⟨i,⟨(cR.mp h1).1,x,h1,d⟩,Q⟩
def h_(bs:List GB)(b:Int):Y (aI bs b)<=Y bs:=Bn bs (Y bs) b
def eM(f:Int->Int)(N:Nat)(pk:List Int)(b:GB):GB:=⟨b.aP.map (nM f N pk),b.list,b.kind,b.on,b.to.map f⟩
def noG:GB:=⟨[],[],0,(b9,0),[]⟩
def bu(bs:List GB)(bw:List Nat):List GB:=bw.map λk:Nat=>eM (aO (nI bw)) (Y bw) (aI bs k) ((bs[k]?).getD noG)
def Yj{l:List (Int×(Bool×Int))}(h:∀x∈l,f x.1=u x.1):fM f l=fM u l:=by
 unfold fM;induction l with
 |nil=>rfl
 |cons x w d=>
  rw[H3,H3,d (λy m=>h y (vU _ m)),h x (iz ..)]
def Yk{b:GB}(h1:∀x∈pk,f x=u x)(d:∀x∈b.to,f x=u x):eM f N pk b=eM u N pk b:=by unfold eM nM;congr 1;refine bf λp _=>?_;congr 2;exact Yj λx m=>h1 _ (b8 (a:=x.1) (b:=x.2) m).1;exact bf d
def Pw(a:bw.Nodup)(h:bw[i]?=Z k):aO (nI bw) k=i:=by
 refine zj (LQ h) λm C e=>?_;unfold nI at e;rw[gu] at e;rcases d:bw[m]? with _|y;rw[d] at e;cases e;rw[d] at e;have D:(y:Int)=k:=ak e
 have o:y=k:=J
 subst o;have s:=(cR.mp h).2;have u:=(cR.mp d).2;have:=(ib a).1 (s.trans u.symm);omega
def YR(h:k∉bw):aO (nI bw) k= -1:=by
 refine pG λd=>?_;unfold nI at d;have⟨y,m,e⟩:=iT.1 d;have:y=k:=J
 exact h (this▸m)
structure Ord(n:Nat)(bw:List Nat):Prop where
 nd:bw.Nodup
 lt:∀x∈bw,x<n
def Ord.len(o:Ord n bw):Y bw<=n:=by have:=YS o.nd (l₂:=aA n) (λx d=>QM.2 (o.lt x d));simpa using this
def Ord.place(o:Ord n bw)(u:Nat):(∃i:Nat,bw[i]?=Z u/\aO (nI bw) u=i/\i<Y bw)\/(u∉bw/\aO (nI bw) u= -1):=by by_cases h:u∈bw;have⟨i,d⟩:=iF h;exact fc ⟨i,d,Pw o.nd d,(cR.mp d).1⟩;exact ft ⟨h,YR h⟩
def Ord.key(o:Ord n bw){k:Int}(I:Y bs=n)(m:∀u:Nat,u<n->f u=aO (nI bw) u):JW f (aI bs k) (Y bw):=by
 have b:∀a∈aI bs k,∃u:Nat,a=u/\u<n:=λa d=>by obtain⟨i,rfl,x,h,_⟩:=cu.1 d;exact⟨i,Q,by rw[<-I];exact(cR.mp h).1⟩
 refine⟨eC _ _,λa d D H h0 e=>?_,λa d=>?_⟩
 .obtain⟨u,rfl,C⟩:=b a d;obtain⟨v,rfl,E⟩:=b D H;rw[m u C] at h0 e;rw[m v E] at e;rcases o.place u with⟨i,h1,s,_⟩|⟨_,s⟩
  .rcases o.place v with⟨j,D,G,_⟩|⟨_,G⟩
   .have:i=j:=J
    subst this;rw[h1] at D;cases D;rfl
   omega
  omega
 obtain⟨u,rfl,C⟩:=b a d;rw[m u C];rcases o.place u with⟨i,h1,s,D⟩|⟨_,s⟩<;>omega
def H4{ys:List G}{y:G}(d:ys[k]?=Z y):ys.set k y=ys:=by refine Bc λm=>?_;rw[fq];by_cases e:k=m;subst e;rw[bH Q,bH (cR.mp d).1,d];rw[bM e]
def aw3(h:aB)(n0:Nat)(B:SV)(ys:List YB)(y:YB)(k:Nat)(f:Int->Int)(e:Env)(m:Nat)(a:Env)(h':aB):Prop:=
 ∃j:Nat,m=Y y.to-j/\j<=Y y.to/\aH KtL e a/\bz a 122 j/\cM h h' n0 B ys B (ys.set k {y with to:=(y.to.take j).map f++y.to.drop j})
def age(f:cy h){B:SV}(L:n0<=h.ax)(W:FZ h n0 B ys)(A:dR h dA (encI.flat ats) o)(E:Y ats=n)(nA:¬cm B ys dA)(E:ys[k]?=Z y)(S:∀t∈y.to,0<=t/\t<n)(N:Y y.to<1000000)(N:n<1000000)(N:dR h X (GZ y) s)(nX:¬cm B ys X)(I:bX e 5=c6 (Z ⟨dA,0,K⟩) n n)(H:cg e 12 X)(b:bX e 120=y.T.v)(c:bz e 121 (Y y.to))(M:bz e 122 0)(w:∀T h',aH KtL e T->cM h h' n0 B ys B (ys.set k {y with to:=y.to.map (mz ats)})->C (.exit 10) T h'):aN FF (.loop yr) e h C:=by
 have q:=(cR.mp E).1;have r:=W.at E;have z:=r.T.len;refine aN.loop (aw3 h n0 B ys y k (mz ats) e) ?_ (n:=Y y.to) ⟨0,Q,J,aH.refl _ _,M,by rw[show ys.set k {y with to:=(y.to.take 0).map (mz ats)++y.to.drop 0} =ys from H4 E];exact .refl W f⟩;rintro m T h'⟨j,rfl,T,B,r,T⟩;have q5:=B.at I;have Jp:=B.at H;have E:=B.at b;have H:=B.at c;have c:=T.g;have I:=c.ok;unfold yr;by_cases b:j<Y y.to
 .have F:=bZ ((j:Int)+1) J J;have⟨t,V⟩:=aR y.to j b;obtain⟨d,d⟩:=S t (cK V);obtain⟨u,rfl⟩:∃u:Nat,t=u:=⟨t.toNat,J⟩;have S:u<n:=J
  have⟨d,D⟩:∃d,d=(y.to.take j).map (mz ats)++y.to.drop j:=⟨_,Q⟩;rw[<-D] at T;have p:(ys.set k {y with to:=d})[k]?=Z {y with to:=d} :=by rw[fq,bH Q,bH q]
  have O:eo encI h' y.T d:=(T.w.at p).T;have G:Y ((y.to.take j).map (mz ats))=j:=by simp;omega
  have l:d[j]?=Z (u:Int):=by rw[D,iN G,V]
  obtain⟨q,g,o',t,t,i,v,dM,v,P⟩:=O.el l;have l:=v 0 1 ai;simp[-ay] at l;have O:=c.get f A nA;have⟨a,v⟩:=aR ats u;have A:=nj O v;have O:=c.get f N nX;have U:=O;simp[GZ] at U E;rw[t,z] at U E;have f:=dM 0 1 ai;simp at f;have z:=aD U;simp[q5,Jp,E,H,r,b,l,U,z,S,A,i,f,F,aK,-ay];have f:az aV h' (tick h'):=(az.refl I).tick;have I:({y with to:=d} :YB).loc .T=Z q:=cj t;have t:=P a 0 [dC ef a] ag rfl (put (tick h') q j g [dC ef a] o') ⟨(tick h').clock,ag⟩;have E:=T.to L p (f.cr.trans ((aX (off:=j) (vs:=[dC ef a]) f.ok i).cX (λx _ e=>fc ⟨.T,Q,by rw[e];exact I⟩))) t;rw[wN] at E;refine⟨Y y.to-(j+1),J,j+1,Q,b,?_,ag,?_⟩
  .exact au
  .have b:mz ats (u:Int)=a:=by simp[mz,v]
   have v:d.set j a=(y.to.take (j+1)).map (mz ats)++y.to.drop (j+1):=by rw[D,set_drop G V,mw,V,aW];simp[b]
   rw[v] at E;exact E
 .have:j=Y y.to:=J
  subst this;rw[mI,cG,ye] at T;simp[H,r];exact w _ _ (B.set) T
def aw6(h1:aB)(n0 F R:Nat)(B O:SV)(s b:aa)(f:Int->Int)(N:Nat)(ah:List (List Int))(bw:List Nat)(ys:List YB)(m:Nat)(e:Env)(h':aB):Prop:=
 ∃(i:Nat) (o d:List YB) (A:SV),m=Y bw-i/\i<=Y bw/\cg e 2 F/\cg e 4 R/\bX e 5=s/\bX e 8=b/\bX e 42=O.v/\bz e 43 (Y bw)/\bz e 44 i/\bX e 9=A.v/\cM h1 h' n0 B ys B o/\(∀c,bD A.v c->¬cm B o c)/\Y o=Y ys/\bx eH h1.ax h' A.v d/\Y d=i/\(∀(j k:Nat)(a:YB),bw[j]?=Z k->d[j]?=Z a->o[k]?=Z a)/\∀(k:Nat)(y z:YB),ys[k]?=Z y->o[k]?=Z z->(k∈bw.take i->∃pk,ah[k]?=Z pk/\z.g=eM f N pk y.g)/\(k∉bw.take i->z=y)
def Ra(H:cy h1){B:SV}(b:KZ h1 (cm B ys) n dA d8 n8 ats ws ah)(w_:Y ys=n)(sO:n0<=h1.ax)(W:FZ h1 n0 B ys){p r:Int}(hF:dR h1 F (aC name p r B) U)(nF:¬cm B ys F)(o:Ord n bw)(l:N=Y bw)(x:bj encI h1 O.v (nI bw))(κO:bw≠[]->∀L,bD O.v L->¬cm B ys L)(NV:∀y∈ys,Y y.to<1000000/\∀t∈y.to,0<=t/\t<n)(jH:∀(k:Nat)(y:YB)(pk:List Int),ys[k]?=Z y->ah[k]?=Z pk->JW (mz ats) pk N/\∀q∈y.ps,Y q.1.row=Y pk)(om:∀y∈ys,Y y.ps<1000000){C:bJ->Env->aB->Prop}(T:cg e 2 F)(P:cg e 4 R)(S:bX e 5=c6 (Z ⟨dA,0,K⟩) n n)(I:bX e 8=c6 (Z ⟨d8,0,K⟩) n n)(E:bX e 42=O.v)(v:bz e 43 (Y bw))(l:bz e 44 0)(w:bX e 9=cU.v)(C':∀X h' u D A,cg X 2 F->cg X 4 R->bX X 9=SV.v A->cM h1 h' n0 B ys B u->(∀c,bD (SV.v A) c->¬cm B u c)->bx eH h1.ax h' (SV.v A) D->Y D=Y bw->(∀(j k:Nat)(a:YB),bw[j]?=Z k->D[j]?=Z a->u[k]?=Z a)->(∀(k:Nat)(y z:YB),ys[k]?=Z y->u[k]?=Z z->k∈bw->∃pk,ah[k]?=Z pk/\z.g=eM (mz ats) N pk y.g)->C (.exit 2) X h'):aN FF (.loop yw) e h1 C:=by
 have d:=b.nn;have hOl:O.l=Y bw:=by have⟨a,f,e,_⟩:=id x;simp[nI] at e;exact e.2.1
 have d:=o.len;have nd:=o.nd;refine aN.loop (aw6 h1 n0 F R B O (c6 (Z ⟨dA,0,K⟩) n n) (c6 (Z ⟨d8,0,K⟩) n n) (mz ats) N ah bw ys) ?_ (n:=Y bw)
  ⟨0,ys,[],cU,Q,J,T,P,S,I,E,v,l,w,.refl W H,λL w=>(FG Q w).elim,Q,fc ⟨Q,Q⟩,Q,λj k a _ h=>by simp at h,λk r r' h1 d=>⟨λh=>by simp at h,λ_=>by rw[h1] at d;cases d;rfl⟩⟩
 rintro m X h'⟨i,u,D,A,rfl,X,q2,q4,q5,q8,I,q43,RB,q9,S,κA',u0,AW,aan,afW,H'⟩;have E:=S.g;have l:=E.ok;unfold yw;by_cases dW:i<Y bw
 .have wi:=bZ ((i:Int)+1) J J;have⟨k,v⟩:=aR bw i dW;have f:=o.lt k (cK v);have⟨y0,AZ⟩:=aR ys k;have⟨T,X⟩:=aR u k;have as2:k∉bw.take i:=by
   intro P;have⟨j,hj⟩:=iF P;rw[F8] at hj;split at hj;have h1:=(cR.mp hj).2;have d:=(cR.mp v).2;have:=(ib nd).1 (h1.trans d.symm);omega
   cases hj
  have P:=(H' k y0 T AZ X).2 as2;subst P;have⟨pk,Bg⟩:=aR ah k (by rw[b.rows.len];exact f);have⟨M,Gi⟩:=aR ws k (by rw[b.acc.len,b.rows.len];exact f);have hO':=aa2 x H E (λeF L w h=>κO (λe=>eF (by rw[e];rfl)) L w h);obtain⟨x,P,P,Wb,_,_,P⟩:=hO'.read (LQ v);have ro:=P 0 1 ai;simp[-ay,nI] at ro Wb;have P:=E.get H hF nF;simp[aC] at P;obtain⟨x,g,x,x,dY,x,x,x,x,eI⟩:=S.w.A.el X;have dq:=S.w.A.len;have yz:=x 0 6 ai;simp[-ay] at yz;rw[dY,dq,u0,w_] at P;simp at I;rw[Wb.1,hOl] at I;have Y1:=S.w.at X;have x:=Y1.P.len;have mR:=Y1.T.len;have oF:=l.bU P;simp[q2,I,q43,RB,dW,ro,P,f,yz,-ay,aJ,aD P,x];refine aN.cut (λd=>az aV h' d/\c_ d h'.ax (GZ T)) ?_ ?_
  refine⟨(az.refl l).var _ _,h'.clock,?_⟩;simp[bg,x,GZ];rintro d⟨g2,s,fh⟩;have P:=E.ax;have T2:=S.cr g2;have nX:¬cm B u h'.ax:=λh=>aw (S.w.j8 l h)
  have⟨E,P⟩:=jH k T pk AZ Bg;refine Yf H b T2 sO X fh nX Gi Bg P E J (om T (cK AZ)) f (av q5) (av q8) ag ag (av x) ag ag ?_;intro x h3 qs E P Mq;have X:=T2.trans P;have k2:=E.at (t:=2) (aq q2);have k4:=E.at (t:=4) (aq q4);have k5:=E.at (t:=5) (aq q5);have k8:=E.at (t:=8) (aq q8);have k9:=E.at (t:=9) (aq q9);have f:cg x 12 h'.ax:=E.at ag;have k42:=E.at (t:=42) (aq I);have k43:=E.at (t:=43) (aq q43);have k44:=E.at (t:=44) (aq RB);have hkC:k<Y u:=J
  have⟨I,x⟩:∃I:YB,I= {T with ps:=qs} :=⟨_,Q⟩;rw[<-x] at P X;have hy3:(u.set k I)[k]?=Z I:=by rw[fq,bH Q,bH hkC]
  have Wh:GZ I=GZ T:=by rw[x];rfl
  have dZ:=P.g.get g2.ok fh nX;have E:=g2.ax;have low:∀(ws:List YB),cM d h3 n0 B u B ws->∀c,c<d.ax->¬cm B u c->¬cm B ws c:=λws S c G E h=>(S.s c h).elim E J;have lX2:=g2.ok.wf _ _ fh;have E:=b.at H X.g;have⟨sA3,Jz⟩:=E.hA;have nA:¬cm B (u.set k I) dA:=λh=>(X.s dA h).elim b.nA (λG=>by obtain⟨E,E⟩:=b.hA;have:=H.wf _ _ E;omega)
  have⟨yE,htr⟩:=NV T (cK AZ);have H:I.to=T.to:=by rw[x]
  have hT3:I.T.v=T.T.v:=by rw[x]
  have E:=dZ;simp[GZ] at E;simp[f,E];refine age X.g.ok (n:=n) (aw X.g.ax) X.w Jz b.al nA hy3 (by rw[H];exact htr) (by rw[H];exact yE) J (by rw[Wh];exact dZ) (low _ P _ lX2 nX) (av k5) (av f) (ak hT3.symm) (by simp[mR,H]) ag ?_;intro e4 b H T4;have E:=X.trans T4;have m2:=H.at (t:=2) (aq k2);have m4:=H.at (t:=4) (aq k4);have m5:=H.at (t:=5) (aq k5);have m8:=H.at (t:=8) (aq k8);have X:=H.at (t:=9) (aq k9);have m12:cg e4 12 h'.ax:=H.at (aq f);have m42:=H.at (t:=42) (aq k42);have m43:=H.at (t:=43) (aq k43);have m44:=H.at (t:=44) (aq k44);rw[wN] at E;have⟨f,H⟩:∃f:YB,f= {I with to:=I.to.map (mz ats)} :=⟨_,Q⟩;rw[<-H] at E;have iG:=T4.g.get P.g.ok dZ (low _ P _ lX2 nX);have e43:eH.enc f=GZ T:=by rw[H,x];rfl
  have I:=iG;simp[GZ] at I X;simp[X,m12,I];have lA':∀c,bD A.v c->c<h'.ax:=λc G=>(du AW).bU l G;have T:az (cm B u) h' b:=(g2.cr.trans P.g).trans' T4.g aj (λc G h=>(P.s c h).elim id (λh=>J));have X:bx eH h1.ax b A.v D:=AW.grow l T (λL w h=>κA' L w h);have L:=aZ E.g.ok (eH.enc f) 0;have GW:=X.grow E.g.ok L aj;have X:bj eH (aM b (eH.enc f) 0) (c6 (Z ⟨b.ax,0,K⟩) 1 1) [f]:=dx (bY _ _ _);have b:=E.g.ax;obtain⟨l,h6,l,b,I,w⟩:=fI (bytes:=96) L.ok (z:=[c6 K 0 0,c6 K 0 0,dC ef 0,dd b9,dC ef 0,c6 K 0 0]) rfl GW X J ai (by simp;omega);refine df (by rw[e43] at l;simpa [GZ] using l) ?_;obtain⟨V,rfl⟩:=bx.Fj b;have X:=T.ax;have l:∀c,cm B (u.set k f) c->cm B u c\/d.ax<=c:=λc G=>by have:=P.trans T4;rw[wN,<-H] at this;exact this.s c G
  have P:cM h1 h6 n0 B ys B (u.set k f):=(E.cr L).go I (λc G=>⟨AW.of G,λh=>by have:=lA' c G;exact(l c h).elim (κA' c G) J⟩);simp[m44,wi];refine⟨Y bw-(i+1),J,i+1,u.set k f,D++[f],V,Q,J,av m2,av m4,av m5,av m8,by simp[m42,Wb.1,hOl],av m43,ag,ag,P,λc G h=>?_,av u0,b,av aan,?_,?_⟩;have I:=w c G;have:=E.w.j8 E.g.ok h;simp at I;omega
  .intro j f a h1 d;rw[fq];by_cases hj:j<i
   .rw[Jf J] at d;have eF:¬k=f:=λe=>by subst e;have b:=(cR.mp h1).2;have I:=(cR.mp v).2;have:=(ib nd).1 (b.trans I.symm);omega
    rw[bM eF];exact afW j f a h1 d
   .rw[Hv J] at d;have B:j-Y D=0:=by have:=(cR.mp d).1;simp at this;omega
    have L:j=i:=J
    subst L;rw[B] at d;simp at d;rw[v] at h1;cases h1;rw[bH Q,bH hkC,d]
  intro f a c h1 d;rw[mw,v];rw[fq] at d;by_cases b:k=f;subst b;rw[bH Q,bH hkC] at d;cases d;rw[AZ] at h1;cases h1;refine⟨λ_=>⟨pk,Bg,?_⟩,λh=>absurd (aT _ ag) h⟩;rw[H,x];unfold eM YB.g;rw[Mq];rw[bM b] at d;have⟨T,I⟩:=H' f a c h1 d;refine⟨λh=>T ?_,λh=>I (λh'=>h (ba _ h'))⟩;rcases jL.1 h with h|h;exact h;simp at h;exact absurd h.symm b
 .have:i=Y bw:=J
  subst this;rw[mI] at H';simp[q43,RB];exact C' _ _ u D A (av q2) (av q4) (av q9) S κA' AW aan afW (λk r r' h1 d=>(H' k r r' h1 d).1)
def FZ.sel{B A:SV}{ys w:List YB}(g:FZ h n0 B ys)(M:eo eH h A w)(f:Nat->Nat)(G:∀(i:Nat)(x:YB),w[i]?=Z x->ys[f i]?=Z x)(H:∀i j:Nat,i<Y w->j<Y w->f i=f j->i=j)(u:∀c,fy A=Z c->n0<=c/\¬cm B ys c):FZ h n0 A w/\(∀c,cm A w c->cm B ys c\/fy A=Z c)/\(xk B ys->xk A w):=by
 have b:∀(o:Option (Nat×Lo))(c:Nat),fx A w o=Z c->(o=K/\fy A=Z c)\/∃i l,o=Z (i,l)/\i<Y w/\fx B ys (Z (f i,l))=Z c:=λo c C=>by
  match o with
  |none=>exact fc ⟨Q,C⟩
  |some (i,l)=>
   have⟨x,h1,k⟩:=OO.1 C;exact ft ⟨i,l,Q,(cR.mp h1).1,by rw[cJ (G i x h1)];exact k⟩
 have k:∀p,Nu p (fx B ys)->Nu p (fx A w):=λp q a B c I E=>by rcases b a c I with⟨rfl,s⟩|⟨i,l,rfl,m,s⟩;rcases b B c E with⟨rfl,d⟩|⟨j,n,rfl,D,d⟩;exact fc rfl;exact absurd ⟨_,d⟩ (u c s).2;rcases b B c E with⟨rfl,d⟩|⟨j,n,rfl,D,d⟩;exact absurd ⟨_,s⟩ (u c d).2;refine(q _ _ c s d).imp (λe=>?_) id;simp only[oN,CB] at e;rw[H i j m D e.1,e.2]
 refine⟨⟨M,λy D=>?_,k True g.inj,λo c e=>?_⟩,λc ⟨o,e⟩=>?_,k False⟩;have⟨i,m⟩:=iF D;exact g.at (G i y m);rcases b o c e with⟨rfl,p⟩|⟨i,l,rfl,m,p⟩;exact(u c p).1;exact g.new _ c p;rcases b o c e with⟨rfl,p⟩|⟨i,l,rfl,m,p⟩;exact ft p;exact fc ⟨_,p⟩
def aeA(name:ByteArray)(p r:Int)(n0:Nat)(B:SV)(ys:List YB)(o:List GB)(h:aB)(v:aa)(h':aB):Prop:=
 ∃(d:SV) (m:List YB),v=eU ⟨aC name p r d⟩/\cM h h' n0 B ys d m/\m.map YB.g=o
def Ly(G:cy h){name:ByteArray}{p r:Int}{B O:SV}(W:FZ h n0 B ys)(E:n0<=h.ax)(E:EB (ys.map YB.g))(d:Ord (Y ys) bw)(b:bj encI h O.v (nI bw))(κO:bw≠[]->∀n,bD O.v n->¬cm B ys n):aY FF 137 [eU ⟨aC name p r B⟩,O.v] h (aeA name p r n0 B ys (bu (ys.map YB.g) bw) h):=by
 have t:=W.A.len;have w:=E.n50;have C:O.l=Y bw:=by have⟨a,D,e,_⟩:=id b;simp[nI] at e;exact e.2.1
 have S:=d.len;simp only[yd] at w;have w:∀c,h.ax<=c->¬cm B ys c:=λc m h1=>aw (W.j8 G h1)
 refine aY.of Te ?_;unfold Ir;have L:¬h.ax=h.ax+1+1:=J
 simp[aC,L];refine bm.cut (λh1=>az aV h h1/\(c_ h1 h.ax (aC name p r B))/\(c_ h1 (h.ax+1) [eT ⟨⟨[]⟩⟩,dC ef 0,dC ef 0,c6 K 0 0])/\(c_ h1 (h.ax+1+1) [dC ef (-1)])) ?_ ?_;exact⟨(((az.refl G).new _ _).new _ _).new _ _,⟨0,by simp[aC,L]⟩,⟨0,ag⟩,⟨0,ag⟩⟩;rintro h1⟨M,⟨U,V⟩,⟨sR,L⟩,⟨P,P⟩⟩;refine bm.call (V:=λv h'=>az aV h1 h'/\∃l s,v=c6 (Z ⟨l,0,K⟩) (Y ys) (Y ys)/\h1.ax<=l/\h'.tr.get l=Z (.ch (encI.flat (an (Y ys) (-1:Int))) b9 0 s)) (by simpa [t] using Mu M.ok (Y ys) J (x:= -1) P) ?_;rintro _ t⟨P,dA,o,rfl,f,f⟩;have F:=M.trans P;have X:=P.get M.ok V;have V:=P.get M.ok L;have H:=M.ok.wf _ _ L;simp[C];refine ajL F.ok (n:=Y ys) d.nd d.lt S J (b.cr G F) (λn L S e=>?_) f ag (av C) ag ag ?_
 .subst e;have f:n<h.ax:=by
   obtain⟨f,f,f,f⟩:=L;obtain⟨a,D,D,H⟩:=b;rcases H with⟨h1,_⟩|⟨g,g,g,g,g,g,g,N,_⟩
   .have:Y (nI bw)=0:=by rw[h1];rfl
    simp[nI] at this;exact absurd this S
   rw[f,g] at D;injection D with D;cases D;exact G.wf _ _ N
  have:=M.ax;omega
 intro g D ats N S ⟨sA3,Jz⟩ Be IE Hy;have I:az aV h D:=F.trans' S aj (λx H e=>aw M.ax);have T:=S.get F.ok X J;have xG:=S.get F.ok V J;have X:=W.cr G I;have V:∀u:Nat,u<Y ys->mz ats u=aO (nI bw) u:=λu F=>by unfold mz;simp only[Xn];rcases d.place u with⟨i,h1,t,_⟩|⟨h1,t⟩;rw[IE i u h1,t];rfl;rw[Hy u F h1,t];rfl
 have k1:bX g 1=O.v:=N.at (av C);have F:cg g 2 h.ax:=N.at ag;have k4:cg g 4 (h.ax+1):=N.at ag;have k5:bX g 5=c6 (Z ⟨dA,0,K⟩) (Y ys) (Y ys):=N.at ag;simp[aC] at T;simp[F,T];refine bm.call (V:=λv h'=>az aV D h'/\∃l ws,v=c6 (Z ⟨l,0,K⟩) (Y ys) (Y ys)/\jm encI D.ax h' l ws (Edge.dm (cx (ys.map YB.g)))) (by simpa [aC] using kS I.ok (name:=name) (p:=p) (r:=r) X.view E.ends) ?_;rintro _ h4⟨g,d8,ws,rfl,w8⟩;have l:=I.trans g;have yB:=g.get I.ok T;have Hx:=g.get I.ok xG;have hA4:=g.get I.ok Jz;have W4:=W.cr G l;have N:Y (ys.map YB.g)=Y ys:=yd ..;have X:Y (cx (ys.map YB.g))=Y ys:=by simp[cx]
 have T:=ahh E.tok;rw[X] at T;have ln1:=M.ax;have l2:=P.ax;have P:=S.ax;have S:=I.ax;have S:=g.ax;have yg:∀ {k:Nat} {y:YB},ys[k]?=Z y->(ys.map YB.g)[k]?=Z y.g:=λh=>by rw[gu,h];rfl
 have S:∀ {k:Nat} {pk:List Int},(Edge.dm (cx (ys.map YB.g)))[k]?=Z pk->pk=aI (ys.map YB.g) k:=fun {k pk} h=>by have I:=(cR.mp h).1;rw[Edge.iV,X] at I;rw[E.ahead J] at h;cases h;rfl
 have g:KZ h4 (cm B ys) (Y ys) dA d8 D.ax ats ws (Edge.dm (cx (ys.map YB.g))):=⟨J,⟨sA3,hA4⟩,Be,w8,w dA J,λn L=>aw (W.j8 G L),T,λT T=>by have⟨k,I⟩:=iF T;rw[S I];have:=h_ (ys.map YB.g) k;omega⟩;simp[k1,C];refine Ra (R:=h.ax+1) l.ok g rfl J W4 yB (w _ J) d rfl (b.cr G l) κO (λy g=>?_) (λk y pk I b=>?_) (λy g=>?_) (av F) (av k4) (av k5) ag (av C) ag ag (by simp[cU]) ?_;have P:=QP (f:=YB.g) g;refine⟨by have:Y y.to<=2:=E.two P;omega,λT F=>?_⟩;have:=E.to _ P T F;rw[N] at this;omega
 rw[S b];refine⟨d.key N V,λq F=>?_⟩;exact E.rows k y.g (yg I) q.1 (iT.2 ⟨q,F,Q⟩);have:=E.pl _ (QP (f:=YB.g) g);simp[YB.g] at this;omega;intro F h5 zs F A q2 q4 T b κA5 D aan afW H5;have X:=b.g.get l.ok yB (w _ J);have AU:=b.g.get l.ok Hx (w _ J);simp at T;simp[q2,q4,T,X,AU];have w:=b.g.ax;have aCB:∀(i:Nat)(x:YB),F[i]?=Z x->∃k,bw[i]?=Z k/\zs[k]?=Z x:=by
  intro i x H;have w:i<Y bw:=by rw[<-aan];exact(cR.mp H).1
  exact⟨_,iK w,afW i _ x (iK w) H⟩
 have⟨WA,T,xA⟩:=b.w.sel (du D) (λi=>(bw[i]?).getD 0) (λi x H=>by
  have⟨k,h1,t⟩:=aCB i x H;rw[h1];exact t) (λi j w t e=>by
  have Jj:i<Y bw:=J
  have t:j<Y bw:=J
  rw[iK Jj,iK t] at e;exact(ib d.nd).1 e) (λc m=>by
  have:=J3 D m;refine⟨J,?_⟩;rcases D with⟨_,f⟩|⟨n,s,f,L,_,_⟩;simp at f;simp[fy,f] at m;simp at f;rw[cj f.1] at m;cases m;exact κA5 _ (fK f.1))
 have f:cM h h5 n0 B ys A F:=by refine((cM.refl W G).cr l).step b.g (λc m=>fc m) ⟨WA,λc m=>?_,λh=>xA (b.x h)⟩;rcases T c m with h|h;exact b.s c h;exact ft (J3 D h)
 have l:∀c,cm A F c->c≠h.ax/\c≠h.ax+1:=λc m=>by
  rcases T c m with h|h;rcases b.s c h with h|h;have:=W.j8 G h;omega;omega
  have:=J3 D h;omega
 have D:=((az.refl b.g.ok).put (S:=λx=>x=h.ax\/x=h.ax+1) (off:=3) (vs:=[bo A.a A.l A.c]) ⟨_,X⟩ (ft (fc Q))).put (b:=h.ax+1) (off:=0) (cs:=[eK ⟨⟨[]⟩⟩,aL c9 0,aL c9 0,bo K 0 0]) (o:=0) (vs:=[eK name,aL c9 p,aL c9 r,bo A.a A.l A.c]) ⟨sR,av AU⟩ (ft (ft Q));generalize put (put h5 _ _ _ _ _) _ _ _ _ _=h6 at D⊢;refine⟨A,F,by simp[aC],f.go D (λc m=>⟨J,λh=>aw (l c h)⟩),?_⟩;unfold bu;refine Bc λi=>?_;rw[gu,gu];rcases Bb i (Y bw) with w|w
 .have⟨k,I⟩:=aR bw i w;have⟨x,H⟩:=aR F i;have F:=d.lt k (cK I);have⟨y,g⟩:=aR ys k F;have⟨pk,F,e⟩:=H5 k y x g (afW i k x I H) (cK I);have P:=QP (f:=YB.g) (cK g);rw[H,I,zz,zz,e,S F,yg g];congr 1;refine Yk (λa g=>?_) (λa g=>?_)
  obtain⟨u,rfl,z,F,_⟩:=cu.1 g;exact V u (by rw[<-N];exact(cR.mp F).1);have:=E.to _ P a g;rw[N] at this;obtain⟨u,rfl⟩:∃u:Nat,a=u:=⟨a.toNat,J⟩;exact V u J
 rw[xE J,xE J];rfl
def ZK(F:SV)(b o:Nat)(m:List (Bool×Int))(l:Nat)(h:aB)(v:aa)(h':aB):Prop:=
 ∃d:SV,v=d.v/\d.a=F.a/\d.l=l/\d.c=F.c/\az (· =b) h h'/\∃s,h'.tr.get b=Z (.ch (cH.flat m) b9 o s)
def jR(r:List (Bool×Int))(j:Nat)(v:Bool×Int):List (Bool×Int):=r.take j++[v]++r.drop j
def fQ(r:List (Bool×Int))(k:Nat):List (Bool×Int):=r.take k++r.drop (k+1)
def j6{r:List (Bool×Int)}(h:k<Y r):Y (fQ r k)=Y r-1:=by simp[fQ];omega
def BX{r:List (Bool×Int)}(h:j<=Y r):Y (jR r j v)=Y r+1:=by simp[jR];omega
def O8(n:cy h){F:SV}{b o s:Nat}{z:Bool×Int}(H:F.a=Z ⟨b,0,K⟩)(D:F.l=Y row)(c:F.c=Y (row++z::V))(k:o=0\/o=2)(C:h.tr.get b=Z (.ch (cH.flat (row++z::V)) b9 o s)){x m a U w:Nat}{t:List aa}{y:Bool×Int}(q:h.tr.get x=Z (.ch t b9 U w))(t:cC h x m 2=Z [dd y.1,dC ef y.2])(f:b≠x)(i:Nat)(G:i<=Y row)(I:F.l<1000000):aY FF 166 [F.v,dC ef i,c6 (Z ⟨x,m,K⟩) 1 a] h (ZK F b o (jR row i y++V) (Y row+1) h):=by
 have⟨vs,d⟩:∃vs,vs=row++z::V:=⟨_,Q⟩;rw[<-d] at c C;have p:Y vs=Y row+(Y V+1):=by rw[d];simp
 have p:Nat.ble i F.l=cd:=by simpa [D] using G
 have v:Nat.blt F.l F.c=cd:=by simp;omega
 have j:(ar o 2||ar o 0)=cd:=by rcases k with rfl|rfl<;>rfl
 have l:Nat.ble (0+F.c*2) (Y (cH.flat vs))=cd:=by rw[cH.eN,c];simp
 have k:ar b x=b9:=by cases e:ar b x;rfl;exact absurd (qm e) f
 have f:Nat.blt F.l 1000000=cd:=ak I
 have M:vs.take i++[y]++(vs.drop i).take (F.l-i)=jR row i y:=by unfold jR;rw[d,o9,nV,o9,show i-Y row=0 by omega,sn,D,r6];simp[nz]
 have r:Go.AI.aQ (cH.flat vs) [dd y.1,dC ef y.2] 0 i F.l 2=cH.flat (vs.take i++[y]++(vs.drop i).take (F.l-i)):=by have I:=cH.ij vs i;have c:=cH.mq vs i;have E:=cH.ij (vs.drop i) (F.l-i);simp only[uK] at I c E;unfold Go.AI.aQ;rw[List.drop_zero,I,Je,c,E,cH.dX,cH.dX,TQ]
 have E:bg (cH.flat vs) 0 (Go.AI.aQ (cH.flat vs) [dd y.1,dC ef y.2] 0 i F.l 2)=cH.flat (jR row i y++V):=by have:=GN cH vs (vs.take i++[y]++(vs.drop i).take (F.l-i)) 0;rw[Nat.zero_mul,oj,List.nil_append,Je,<-r] at this;rw[this,M,BX G];congr 2;rw[d,nV];simp
 have d:K8 2 [F.v,dC ef i,c6 (Z ⟨x,m,K⟩) 1 a] h=Z (c6 (Z ⟨b,0,K⟩) (F.l+1) F.c,{put h b 0 (cH.flat vs) (Go.AI.aQ (cH.flat vs) [dd y.1,dC ef y.2] 0 i F.l 2) o with ax:=h.ax+8}):=by show K8 2 [c6 F.a F.l F.c,dC ef (.ofNat i),c6 (Z ⟨x,m,K⟩) 1 a] h=_;rw[H];simp only[K8,Wl,C,q,p,v,j,l,k,f,Nat.beq_refl,Bool.and_true,Bool.not_false,if_true,t]
 refine aY.run jk d ⟨⟨F.a,F.l+1,F.c⟩,av H,Q,by rw[D],Q,?_,h.clock,by rw[<-E];simp[put,Tr.bS]⟩;have g:=aX (off:=0) (vs:=Go.AI.aQ (cH.flat vs) [dd y.1,dC ef y.2] 0 i F.l 2) n C;exact⟨s9 _ _,g.clock,λu h1 n=>g.same u h1 n,⟨λu n h'=>Jy (g.ok.wf u n h') (s9 _ _),g.ok.st⟩⟩
def aeZ(G:cy h){b o s c l k a N:Nat}(d:c=Y vs)(d:l<=c)(m:h.tr.get b=Z (.ch (cH.flat vs) b9 o s))(d:k<l)(d:a=k+1)(d:N=l-1)(d:l<1000000):∃u,gi h [dd b9,dC ef 0] 16 b9 (c6 (Z ⟨b,0,K⟩) k c) (c6 (Z ⟨b,a*2,K⟩) (l-a) (c-a))=Z (c6 (Z ⟨b,0,K⟩) N c,u)/\az (· =b) h u/\∃s,u.tr.get b=Z (.ch (cH.flat (vs.take k++(vs.drop a).take (l-a)++vs.drop (k+(l-a)))) b9 o s):=by
 have d:Y ((vs.drop a).take (l-a))=l-a:=by simp;omega
 have U:bj cH h (c6 (Z ⟨b,a*2,K⟩) (l-a) (c-a)) ((vs.drop a).take (l-a)):=by refine⟨_,_,by rw[d],ft ⟨b,a*2,_,_,_,_,Q,m,?_,?_⟩⟩;rw[d,cH.eN,uK];omega;have H:=cH.mq vs a;have D:=cH.ij (vs.drop a) (l-a);simp only[uK] at H D;rw[d,uK,H,D]
 unfold gi;rw[CJ (E:=cH) (z:=[dd b9,dC ef 0]) Q U,d];dsimp only;rcases La (l-a) with h0|h0
 .refine⟨h,?_,.refl G,s,by rw[h0];simpa using m⟩;have:N=k:=J
  have q:k<=c:=J
  rw[h0,this];simp[dz,q]
 .have⟨M,C⟩:∃M,M=l-a:=⟨_,Q⟩;rw[<-C] at h0 d⊢;have D:roomy N=cd:=by simp[roomy];omega
  have e:roomy (N*16)=cd:=by simp[roomy];omega
  have H:N<=c:=J
  have g:¬M=0:=J
  have f:k+M=N:=J
  have I:Y (cH.flat ((vs.drop a).take M))=M*2:=by rw[cH.eN,d,uK]
  have V:k*2+M*2<=Y vs*2:=J
  refine⟨put h b (k*2) (cH.flat vs) (cH.flat ((vs.drop a).take M)) o,?_,aX G m,h.clock,?_⟩;simp[dz,D,e,H,g,m,I,V,f];rw[bc];have:=GN cH vs ((vs.drop a).take M) k;rw[d] at this;simp only[uK] at this;rw[this]
def Hr(c:cy h){F:SV}{b o s:Nat}(M:F.a=Z ⟨b,0,K⟩)(q:F.l=Y row)(e:F.c=Y (row++V))(n:o=0\/o=2)(C:h.tr.get b=Z (.ch (cH.flat (row++V)) b9 o s))(k:Nat)(D:k<Y row)(l:F.l<1000000):aY FF 167 [F.v,dC ef k,dC ef ((k:Int)+1)] h (ZK F b o (fQ row k++(b9,0)::V) (Y row-1) h):=by
 obtain⟨vs,d⟩:∃vs,vs=row++V:=⟨_,Q⟩;rw[<-d] at e C;have a:Y vs=Y row+Y V:=by rw[d];simp
 obtain⟨a,I⟩:∃a,a=k+1:=⟨_,Q⟩;obtain⟨N,r⟩:∃N,N=F.l-1:=⟨_,Q⟩;have E:((k:Int)+1)=(a:Int):=J
 rw[E];have E:F.l<=F.c:=J
 have f:a<=F.l:=J
 have t:k<=a:=J
 have i:((k:Int)==(a:Int))=b9:=by simp;omega
 have p:a<=F.c:=J
 have j:k<=F.l:=J
 have H:k<=F.c:=J
 refine aY.of qq ?_;unfold ji;have G:(ar o 0||ar o 2)=cd:=by rcases n with rfl|rfl<;>rfl
 simp[M,f,t,i,p,j,H,G,E,C];obtain⟨j,p,H,i,u⟩:=aeZ (N:=N) (bk c).ok e E (ak C) J I r l;refine kW p ?_;have l:vs.take k++(vs.drop a).take (F.l-a)++vs.drop (k+(F.l-a))=fQ row k++(row++V).drop N:=by unfold fQ;rw[d,o9,nV,o9,show k-Y row=0 by omega,show a-Y row=0 by omega,show k+(F.l-a)=N by omega,sn,q,r6,I];simp[nz]
 rw[l] at u;have q:(fQ row k++(row++V).drop N).set N (b9,0)=fQ row k++(b9,0)::V:=by
  have U:(row++V).drop N=(row++V)[N]'(by simp;omega)::(row++V).drop (N+1):=List.drop_eq_getElem_cons _;have h1:(row++V).drop (N+1)=V:=by rw[nV,show N+1-Y row=0 by omega,Gb J];rfl
  rw[List.set_append,bM (by rw[j6 D];omega),j6 D,show N-(Y row-1)=0 by omega,U,List.set_cons_zero,h1]
 have l:Y (fQ row k++(row++V).drop N)=Y vs:=by rw[IA,j6 D];simp;omega
 have d:N<=F.l:=J
 have I:N<=F.c:=J
 have D:F.l-N=1:=J
 have a:N*2+2<=Y (cH.flat (fQ row k++(row++V).drop N)):=by rw[cH.eN,l,uK];omega
 have l:jG [eX b9,aL c9 0] 1=[dd b9,dC ef 0]:=Q;have m:=cH.tz (fQ row k++(row++V).drop N) N (b9,0) J;simp only[uK,BO] at m;rw[q] at m;generalize cH.flat (fQ row k++(row++V).drop N)=g at*;simp[G,d,I,D,a,E,u,l];have l:=aX (off:=N*2) (vs:=[dd b9,dC ef 0]) H.ok u;exact⟨⟨Z ⟨b,0,K⟩,N,F.c⟩,ag,M.symm,by show N=_;omega,Q,((bk c).cr.trans H).trans l,j.clock,by rw[bc,m]⟩
def N7(pk:List Int)(bU now:Int)(row:List (Bool×Int)):List (Bool×Int):=
 jR (fQ row (aO pk bU).toNat) (Y (pk.filter λa=>decide (a<now)&&a !=bU)) ((row[(aO pk bU).toNat]?).getD (b9,0))
def ac9(m:cy h){B:SV}(W:FZ h n0 B ys)(X:n0<=h.ax){F X1 X2 y i k j U:Nat}(b:dR h F (aC name p rg B) U)(O:¬cm B ys F){r:YB}(I:ys[y]?=Z r)(f:r.ps[i]?=Z q)(E:c_ h X1 [dC ef q.1.dst,q.2.v])(H:c_ h X2 [dd v.1,dC ef v.2])(n2:¬cm B ys X2)(a:k<Y q.1.row)(z:j+1<=Y q.1.row)(z:Y q.1.row<1000000)(z:Y r.ps<1000000)(f0:cg e 0 F)(f8:bz e 8 y)(f9:bz e 9 k)(f10:bz e 10 j)(f13:bz e 13 i)(f14:cg e 14 X1)(z:cg e 15 X2)(C':∀L h' P,aH axq e L->cM h h' n0 B ys B (ys.set y {r with ps:=r.ps.set i (⟨q.1.dst,jR (fQ q.1.row k) j v⟩,P)})->C .normal L h'):aN FF RD e h C:=by
 have⟨L,E⟩:=E;have⟨L,H⟩:=H;have R:=W.at I;have mj:=(cR.mp I).1;have XO:=(cR.mp f).1;obtain⟨P,g,L,L,L,N,d,d,d,w⟩:=W.A.el I;have w:=d 0 1 ai;simp[-ay] at w;have S:=W.A.len;have d:=b;simp[aC] at d;rw[L,S] at d;have af2:=m.st _ _ _ _ _ b;have Ls:=m.st _ _ _ _ _ N;have Lq:=m.st _ _ _ _ _ H;have oF:=m.bU b;have oX2:=m.bU H;obtain⟨S,⟨_,_,l⟩|⟨b,o,s,V,D,T,n,x⟩⟩:=R.ps q (cK f)
 rw[l] at a;simp at a;have l:r.loc (.R i)=Z b:=by rw[YB.jM f];exact cj D
 have A:cm B ys b:=⟨Z (y,.R i),by rw[cJ I];exact l⟩;have fe:=R.P.len;have M:=bZ ((k:Int)+1) J J;simp at E;rw[D] at E;have t:o=0\/o=2:=ak x
 unfold RD;simp[f0,f8,f9,f10,f13,f14,z,d,mj,w,E,H,M,-ay,aD d,aD E,aD H,aK,bh,oF,oX2];refine ck.cut (λE=>az aV h E/\h.clock<=E.clock/\E.tr.get h.ax=Z (.ch [dd v.1,dC ef v.2] b9 0 0)) ?_ ?_;exact⟨(bk m).trans (aZ (bk m).ok _ _),Nat.le_succ _,ag⟩;rintro E⟨u,w,XD⟩;have w:=u.get m n;have Xt:=u.get m N;have tJ:=u.get m d;have azs:=u.get m H;refine ck.call (V:=ZK q.2 b o (fQ q.1.row k++(b9,0)::V) (Y q.1.row-1) E) (by simpa [D] using Hr u.ok (F:=q.2) D S (ak T) t w k a J) ?_;rintro _ B⟨w,rfl,G,T,T,E,T,N⟩;have T:=j6 a;have d:¬h.ax=b:=λe=>aw (m.wf _ _ n)
 have S:¬X2=b:=λe=>n2 (e▸A);have n:¬F=b:=λe=>O (e▸A);have H:¬P=b:=λe=>by have:=W.uO K (Z (y,.R i)) b (by rw[<-e];exact cj L) (by rw[cJ I];exact l);cases this
 have a:=E.get u.ok XD d;have A:=E.get u.ok azs S;have S:=E.get u.ok tJ n;have P:=E.get u.ok Xt H;simp[z,A,a,Lq];have A:cC B h.ax 0 2=Z [dd v.1,dC ef v.2]:=by rw[fm a ag];rfl
 refine ck.call (V:=ZK w b o (jR (fQ q.1.row k) j v++V) (Y (fQ q.1.row k)+1) B) (ak (O8 E.ok (F:=w) (by rw[G,D]) J (by simp[T];omega) t N a A (a7 d) j J J)) ?_;rintro _ B⟨d,rfl,N,a,a,a,s4,hb4⟩;have yB:=a.get E.ok S n;have S:=a.get E.ok P H;have A:az (· =b) h B:=(u.cr.trans E).trans a;have z:∀c,fy r.P=Z c->c≠b:=λc H e=>by have:=W.Gj I .P (.R i) b (by rw[<-e];exact H) l;cases this
 obtain⟨E,n,t,P,w,O,P,T,P,P⟩:=(R.P.go m A (λc H e=>z c e H)).el f;have lP:r.loc .P=Z E:=cj w;have nPb:=z E (cj w);have L:=T 1 1 ai;simp at L;have z:az (· =E) B (put B E (i*2+1) n [c6 d.a d.l d.c] t):=aX a.ok O;have T:=P (⟨q.1.dst,jR (fQ q.1.row k) j v⟩,d) 1 [c6 d.a d.l d.c] ag rfl (put B E (i*2+1) n [c6 d.a d.l d.c] t) ⟨_,bc _ _ _ _ _ _⟩;have P:Y (jR (fQ q.1.row k) j v)=Y (fQ q.1.row k)+1:=BX J;have P:eo cH (put B E (i*2+1) n [c6 d.a d.l d.c] t) d (jR (fQ q.1.row k) j v):=⟨J,ft ⟨b,o,s4,V,by rw[N,G,D],J,z.get a.ok hb4 (a7 nPb),x⟩⟩;simp[yB,S,af2,Ls,w,fe,XO,O,L];refine C' _ _ d ?_ ((cM.refl W m).row X I f (A.trans' z (λc _ e=>fc ⟨.R i,ft Q,by rw[e];exact l⟩) (λc _ e=>fc ⟨.P,fc Q,by rw[e];exact lP⟩)) T P (λc H=>fc ?_))
 .repeat (refine aH.set ?_)
  exact aH.refl _ _
 rw[cj D];have P:fy d=Z b:=cj (by rw[N,G,D]);rw[<-H,P]
def axt(h:aB)(n0:Nat)(B:SV)(ys:List YB)(y:Nat)(r:YB)(f:List (Bool×Int)->List (Bool×Int))(e:Env)(m:Nat)(a:Env)(h':aB):Prop:=
 ∃(i:Nat) (d:List (GP×SV)),m=Y r.ps-i/\i<=Y r.ps/\Y d=i/\aH aqD e a/\bz a 69 i/\cM h h' n0 B ys B (ys.set y {r with ps:=d++r.ps.drop i})/\d.map (·.1)=((r.ps.map (·.1)).take i).map λp=>⟨p.dst,f p.row⟩
def ac_(P:cy h){B:SV}(W:FZ h n0 B ys)(S:n0<=h.ax){F y k j l U:Nat}(O:dR h F (aC name p rg B) U)(S:¬cm B ys F){r:YB}(L:ys[y]?=Z r)(a:∀q∈r.ps,Y q.1.row=l)(f:k<l)(d:j+1<=l)(b:l<1000000)(w:Y r.ps<1000000)(N:cg e 0 F)(E:bz e 8 y)(D:bz e 9 k)(I:bz e 10 j)(f:bX e 67=r.P.v)(H:bz e 68 (Y r.ps))(n:bz e 69 0)(C':∀X h' b,aH aqD e X->cM h h' n0 B ys B (ys.set y {r with ps:=b})->b.map (·.1)=(r.ps.map (·.1)).map (λp=>⟨p.dst,jR (fQ p.row k) j ((p.row[k]?).getD (b9,0))⟩)->C (.exit 4) X h'):aN FF (.loop tP) e h C:=by
 have b:=(cR.mp L).1;refine aN.loop (axt h n0 B ys y r (λrow=>jR (fQ row k) j ((row[k]?).getD (b9,0))) e) ?_ (n:=Y r.ps) ⟨0,[],Q,J,Q,aH.refl _ _,n,by rw[show ys.set y {r with ps:=[]++r.ps.drop 0} =ys from H4 L];exact .refl W P,ag⟩;rintro m X h'⟨i,d,rfl,X,A,z,u,T,t⟩;have g:=T.g;have G:=g.ok;have q0:=z.at N;have q8:=z.at E;have w:=z.at D;have qE:=z.at I;have s:=z.at f;have E:=z.at H;unfold tP;by_cases N:i<Y r.ps
 .have wi:=bZ ((i:Int)+1) J J;have⟨q,I⟩:=aR r.ps i N;have n:=iN (qs:=r.ps) A;rw[I] at n;have X:=a q (cK I);have⟨o,D⟩:∃o:YB,o= {r with ps:=d++r.ps.drop i} :=⟨_,Q⟩;rw[<-D] at T;have f:(ys.set y o)[y]?=Z o:=by rw[fq,bH Q,bH b]
  have yi:o.ps[i]?=Z q:=by rw[D];exact n
  have R:=T.w.at f;have X:eo iE h' r.P (d++r.ps.drop i):=by have:=R.P;rw[D] at this;exact this
  have H:=R.ps q (cK yi);have⟨v,hv⟩:=aR q.1.row k;obtain⟨b,L,x,L,x,a,kj,_,V,_⟩:=H.el hv;have L:=V 0 2 ai;obtain⟨H,H,H,H,gy,H,H,H,H,yX⟩:=X.el n;have n:=H 0 2 ai;simp[-ay] at n L;have H:=X.len;have X:Y (d++r.ps.drop i)=Y r.ps:=by simp;omega
  simp at s;rw[gy,H,X] at s;have X:=G.bU a;have H:¬b=h'.ax:=aw X.lt
  have a:¬b=h'.ax+1:=aw X.lt
  simp[s,E,u,w,N,kj,n,L,x,X,H,a,-ay,aJ,cw,bh,aK];refine aN.cut (λH=>az aV h' H/\(c_ H h'.ax [dC ef q.1.dst,q.2.v])/\c_ H (h'.ax+1) [dd v.1,dC ef v.2]) ?_ ?_
  .have b:¬h'.ax=h'.ax+1:=J
   exact⟨((az.refl G).var _ _).var _ _,⟨h'.clock,by simp[bg,x,b]⟩,⟨h'.clock+1,by simp[bg]⟩⟩
  rintro H⟨a,n,H⟩;have L:=g.ax;have L:=P.wf _ _ O;have L:∀c,h'.ax<=c->¬cm B (ys.set y o) c:=λc X h=>aw (T.w.j8 G h)
  have M:¬cm B (ys.set y o) F:=λh=>(T.s F h).elim S J;have x:=T.cr a;refine ac9 a.ok x.w (aw x.g.ax) (F:=F) (X1:=h'.ax) (X2:=h'.ax+1) (y:=y) (i:=i) (k:=k) (j:=j) (v:=v) (q:=q) (a.get G (g.get P O S)) M f yi n H (L _ J) J J J (by rw[D];show(d++r.ps.drop i).length<_;omega) (av q0) (av q8) (av w) (av qE) ag ag ag ?_;intro X B f P O;have B:=P.at (t:=69) (aq u);have S:=x.trans O;rw[wN] at S;have w:({o with ps:=o.ps.set i (⟨q.1.dst,jR (fQ q.1.row k) j v⟩,f)} :YB)= {r with ps:=(d++[(⟨q.1.dst,jR (fQ q.1.row k) j v⟩,f)])++r.ps.drop (i+1)} :=by rw[D];dsimp only;rw[set_drop A I]
  rw[w] at S;simp[B,wi];refine⟨Y r.ps-(i+1),J,i+1,d++[(⟨q.1.dst,jR (fQ q.1.row k) j v⟩,f)],Q,N,av A,?_,ag,S,?_⟩
  .refine aH.set (aH.set (aH.trans ?_ (P.cX)))
   exact au
  rw[aW,t,mw,gu,I,aW];simp[hv]
 .have:i=Y r.ps:=J
  subst this;rw[cG,ye] at T;simp[E,u];exact C' _ _ d (aH.set z) T (by rw[t,nz ag])
def I9(bU now:Int)(l:List Int):Nat:=Y (l.filter λa=>decide (a<now)&&a !=bU)
def aqE(h:aB)(a:List Int)(bU now:Int)(e:Env)(m:Nat)(b:Env)(h':aB):Prop:=
 ∃t:Nat,m=Y a-t/\t<=Y a/\aH RnC e b/\bz b 45 t/\bz b 10 (I9 bU now (a.take t))/\h'=h
def YV{p:List Int}(I:bj encI h W.v p)(b:Y p<1000000)(X:bz e 1 bU)(D:bz e 2 now)(U:bz e 10 0)(q:bX e 43=W.v)(l:bz e 44 (Y p))(g:bz e 45 0)(L:∀z,aH RnC e z->bz z 10 (I9 bU now p)->C (.exit 2) z h):aN FF (.loop tQ) e h C:=by
 have H:W.l=Y p:=by have⟨a,t,e,_⟩:=id I;simp at e;exact e.2.1
 refine aN.loop (aqE h p bU now e) ?_ (n:=Y p) ⟨0,Q,J,aH.refl _ _,g,U,Q⟩;rintro m z h'⟨t,rfl,c,z,M,s,rfl⟩;have V:=z.at X;have g:=z.at D;have d:=z.at q;have b:=z.at l;unfold tQ;by_cases D:t<Y p
 .have O:=bZ ((t:Int)+1) J J;have v:I9 bU now (p.take t)<=t:=wV (NN _ _) (by simp;omega);have S:=bZ ((I9 bU now (p.take t):Int)+1) J J;have⟨x,l⟩:=aR p t D;have⟨y,v,T,f,_,_,A⟩:=I.read l;have I:=A 0 1 ai;simp[-ay] at I f d;rw[f.1,H] at d;have o:I9 bU now (p.take (t+1))=I9 bU now (p.take t)+(if decide (x<now)&&x !=bU then 1 else 0):=by unfold I9;rw[mw,l,e6,IA];congr 1;cases A:(decide (x<now)&&x !=bU)<;>simp[List.filter_cons,A]
  have u:∀(E:Env),aH RnC e E->bz E 45 ((t:Int)+1)->bz E 10 (I9 bU now (p.take (t+1)))->∃m,m<Y p-t/\aqE h' p bU now e m E h':=λE l T F=>⟨Y p-(t+1),J,t+1,Q,D,l,ak T,F,Q⟩;by_cases G:x<now
  .by_cases q:x=bU
   .have H:(x !=bU)=b9:=by simp[q]
    rw[H] at o;simp at o;simp[V,g,d,b,M,s,D,I,G,H,O,-ay];refine u _ ?_ ag (by simp[s,o])
    exact au
   .have H:(x !=bU)=cd:=by simp[q]
    rw[H] at o;simp[G] at o;simp[V,g,d,b,M,s,D,I,G,H,O,S,-ay];refine u _ ?_ ag (av o)
    exact au
  .simp[G] at o;simp[V,g,d,b,M,s,D,I,G,O,-ay];refine u _ ?_ ag (by simp[s,o])
   exact au
 .have:t=Y p:=J
  subst this;rw[mI] at s;simp[b,M];exact L _ (aH.set z) (av s)
def Dt(pk:List Int)(bU now:Int)(b:GB):GB:= {b with aP:=b.aP.map λp=>⟨p.dst,N7 pk bU now p.row⟩}
def Mr(bs:List GB)(bU now:Int)(to:List Int):List GB:=bs.mapIdx λi b=>if(i:Int)∈to then Dt (aI bs i) bU now b else b
def GD{b:GB}(h:bs[i]?=Z b):(Mr bs bU now to)[i]?=Z (if(i:Int)∈to then Dt (aI bs i) bU now b else b):=by unfold Mr;rw[bn,h];rfl
def Ms(bs:List GB)(bU now:Int)(to:List Int):Y (Mr bs bU now to)=Y bs:=by simp[Mr]
def ac7{i u:Nat}{b:GB}(h:to[i]?=Z (u:Int))(d:bs[u]?=Z b):Mr bs bU now (to.take (i+1))=(Mr bs bU now (to.take i)).set u (Dt (aI bs u) bU now b):=by
 refine Bc λm=>?_;rw[fq];have o:=(cR.mp d).1;by_cases e:u=m
 subst e;rw[bH Q,bH (by rw[Ms];exact o),GD d,bH (by rw[mw,h];simp)]
 .rw[bM e];unfold Mr;rw[bn,bn];congr 1;funext b';have:((m:Int)∈to.take (i+1))↔((m:Int)∈to.take i):=by rw[mw,h];simp;omega
  simp only[this]
def axu(h1:aB)(n0:Nat)(B:SV)(ys:List YB)(o:aa)(F:Nat)(bU now:Nat)(T:SV)(to:List Int)(m:Nat)(e:Env)(h':aB):Prop:=
 ∃(i:Nat) (d:List YB),m=Y to-i/\i<=Y to/\cg e 0 F/\bz e 1 bU/\bz e 2 now/\bX e 6=o/\bX e 28=T.v/\bz e 29 (Y to)/\bz e 30 i/\cM h1 h' n0 B ys B d/\d.map YB.g=Mr (ys.map YB.g) bU now (to.take i)/\∀(k:Nat)(y z:YB),ys[k]?=Z y->d[k]?=Z z->z= {y with ps:=z.ps}
def RE(d:cy h){f:SV}(W:FZ h n0 f ys)(S:n0<=h.ax)(hF:dR h F (aC name p rg f) U)(nF:¬cm f ys F){bU now:Nat}{B:YB}(V:ys[bU]?=Z B)(E:EB (ys.map YB.g)):aY FF 196 [dB (Z ⟨F,0,K⟩),dC ef bU,dC ef now] h (λ_ h'=>∃o,cM h h' n0 f ys f o/\o.map YB.g=Mr (ys.map YB.g) bU now B.to/\∀(k:Nat)(y z:YB),ys[k]?=Z y->o[k]?=Z z->z= {y with ps:=z.ps}):=by
 have D:=(cR.mp V).1;have b:=W.at V;have l:=b.T.len;have n:Y (ys.map YB.g)=Y ys:=yd ..;have A:=E.n50;rw[n] at A;have P:∀ {k:Nat} {y:YB},ys[k]?=Z y->(ys.map YB.g)[k]?=Z y.g:=λh=>by rw[gu,h];rfl
 have x:=cK (P V);have O:B.to.Nodup:=E.nd x;have T:Y B.to<=2:=E.two x;have t:=hF;simp[aC] at t;refine aY.of ND ?_;unfold DH;simp[t];refine bm.call (V:=λv h'=>az aV h h'/\∃H ws,v=c6 (Z ⟨H,0,K⟩) (Y ys) (Y ys)/\jm encI h.ax h' H ws (Edge.dm (cx (ys.map YB.g)))) (by simpa [aC] using kS d (name:=name) (p:=p) (r:=rg) W.view E.ends) ?_;rintro _ h1⟨s,H,ws,rfl,I⟩;have A:=W.cr d s;have wX:=s.get d t;have afp:=s.get d hF;obtain⟨X,g,t,L,dY,N,c,T,N,t⟩:=A.A.el V;have b:=N 5 1 ai;simp[-ay] at b;have L:=A.A.len;rw[dY,L] at wX;simp[wX,D,b,l,-ay,aD wX];have S:(ys.map YB.g)=Mr (ys.map YB.g) bU now (B.to.take 0):=by refine Bc λm=>?_;unfold Mr;rw[bn];simp;rfl
 refine aN.loop (axu h1 n0 f ys (c6 (Z ⟨H,0,K⟩) (Y ys) (Y ys)) F bU now B.T B.to) ?_ (n:=Y B.to)
  ⟨0,ys,Q,J,ag,ag,ag,ag,av l,ag,ag,.refl A s.ok,S,λk y z a b=>by rw[a] at b;cases b;rfl⟩
 rintro m X h'⟨i,o,rfl,X,q0,q1,q2,q6,X,D',G,T,A,HT⟩;have N:=T.g;have bC:=N.ok;have c:Y o=Y ys:=by have:=congrArg dk A;simp[Ms] at this;exact this
 unfold AJ;by_cases dW:i<Y B.to
 .have wi:=bZ ((i:Int)+1) J J;have⟨t,c⟩:=aR B.to i dW;have L:=E.to _ x t (cK c);rw[n] at L;obtain⟨u,rfl⟩:∃u:Nat,t=u:=⟨t.toNat,J⟩;have D:u<Y ys:=J
  have⟨n,t⟩:=aR ys u D;have⟨S,w⟩:=aR o u;have H:(u:Int)∉B.to.take i:=λx=>by
   have⟨j,L⟩:=iF x;rw[F8] at L;split at L;have a1:=(cR.mp L).2;have a2:=(cR.mp c).2;have:=(ib O).1 (a1.trans a2.symm);omega
   cases L
  have eg:S.g=n.g:=by
   have h1:(o.map YB.g)[u]?=Z S.g:=by rw[gu,w];rfl
   rw[A,GD (P t),bM H] at h1;exact(bI h1).symm
  have Bg:=E.ahead (k:=u) J;have⟨pk,H⟩:∃pk,pk=aI (ys.map YB.g) u:=⟨_,Q⟩;rw[<-H] at Bg;have⟨M,Gi⟩:=aR ws u (by rw[I.len];exact(cR.mp Bg).1);have AX:(bU:Int)∈pk:=by rw[H];exact cu.2 ⟨bU,Q,B.g,P V,cK c⟩
  have anp:pk.Nodup:=by rw[H];exact eC _ _
  have O:Y pk<=2000:=by have:=h_ (ys.map YB.g) u;rw[<-H] at this;omega
  have w':=I.grow s.ok N (λb O h=>aw (W.j8 d h));obtain⟨I,I⟩:=w'.ch;have Ws:=tR I Gi;have I:∀ {k:Nat} {z:YB},o[k]?=Z z->∃y,ys[k]?=Z y:=fun {k z} h=>⟨_,iK (aw ((cR.mp h).1))⟩;have⟨I,Q1⟩:=aR o bU;have Xy:I.to=B.to/\I.T=B.T:=by
   refine⟨?_,by rw[HT bU B I V Q1]⟩;have h1:(o.map YB.g)[bU]?=Z I.g:=by rw[gu,Q1];rfl
   rw[A,GD (P V)] at h1;have O:I.g.to=B.g.to:=by rw[<-bI h1];split<;>rfl
   exact O
  have I:bj encI h' B.T.v B.to:=by have:=(T.w.at Q1).T.sl;rw[Xy.1,Xy.2] at this;exact this
  obtain⟨V,V,V,Gf,_,_,V⟩:=I.read c;have r:=V 0 1 ai;simp[-ay] at r Gf Ws;simp at X;rw[Gf.1,l] at X;simp[q6,q1,X,D',G,dW,r,Ws,D,-ay];have I:bj encI h' M.v pk:=(w'.acc u M pk Gi Bg).sl;refine bm.call (V:=λv O=>O=h'/\∃k:Nat,v=dC ef k/\pk[k]?=Z (bU:Int)) (ak (IK I J AX)) ?_;rintro _ O⟨rfl,k,rfl,V⟩;have kj:=(cR.mp V).1;have om:aO pk bU=k:=zj V λm x e=>by have a1:=(cR.mp V).2;have a2:=(cR.mp e).2;have:=(ib anp).1 (a1.trans a2.symm);omega
  have V:M.l=Y pk:=by have⟨a,cap,e,_⟩:=id I;simp at e;exact e.2.1
  simp[q6,q1,X,D',G,Ws,D,-ay];refine YV (bU:=bU) (now:=now) I J (av q1) (av q2) ag ag (av V) ag ?_;intro I C k10;have L:I9 bU now pk<Y pk:=tx.2 ⟨bU,AX,ag⟩;have L:=C.at (t:=0) (aq q0);have k1:=C.at (t:=1) (aq q1);have k2:=C.at (t:=2) (aq q2);have k6:=C.at (t:=6) (aq q6);have k8:bX I 8=dC ef u:=C.at ag;have k9:bX I 9=dC ef k:=C.at ag;have k28:=C.at (t:=28) (aq X);have k29:=C.at (t:=29) (aq D');have k30:=C.at (t:=30) (aq G);have nF1:¬cm f o F:=λh=>(T.s F h).elim nF (by have:=d.wf _ _ hF;have:=s.ax;omega);have f:=N.get s.ok wX nF;have oh:=N.get s.ok afp nF;obtain⟨V,I,X,I,I,X,V,V,X,V⟩:=T.w.A.el w;rw[dY] at I;cases I;have V:=X 0 1 ai;simp[-ay] at V;have I:=T.w.at w;have X:=I.P.len;simp[L,k8,f,D,V,X,-ay,aD f];have V:=cK (P t);have I:S.ps.map (·.1)=n.ps.map (·.1):=congrArg GB.aP eg;refine ac_ bC T.w (by have:=s.ax;have:=N.ax;omega) (F:=F) (y:=u) (k:=k) (j:=I9 bU now pk) (l:=Y pk) oh nF1 w (λq N=>?_) kj J J ?_ (av L) (av k8) (av k9) (av k10) (av X) ag ag ?_
  .have x:q.1∈n.g.aP:=by show q.1∈n.ps.map (·.1);rw[<-I];exact iT.2 ⟨q,N,Q⟩
   rw[E.rows u n.g (P t) q.1 x,H]
  have:=E.pl _ V;have O:=congrArg dk I;simp at O;simp[YB.g] at this;omega
  intro f n f I n x;have E:=I.at (t:=0) (aq L);have N:=I.at (t:=1) (aq k1);have O:=I.at (t:=2) (aq k2);have D:=I.at (t:=6) (aq k6);have X:=I.at (t:=28) (aq k28);have V:=I.at (t:=29) (aq k29);have L:=I.at (t:=30) (aq k30);simp[L,wi];refine⟨Y B.to-(i+1),J,i+1,o.set u {S with ps:=f},Q,dW,av E,av N,av O,av D,by simp[X,Gf.1,l],av V,ag,T.trans n,?_,λk y z a b=>?_⟩
  rw[dr,A,ac7 c (P t),<-eg,<-H];congr 1;unfold Dt N7 YB.g;simp only[om,Xn];rw[x];rfl
  .rw[fq] at b;by_cases e:u=k;subst e;rw[bH Q,bH J] at b;cases b;have:=HT u y S a w;rw[this]
   rw[bM e] at b;exact HT k y z a b
 .have:i=Y B.to:=J
  subst this;rw[mI] at A;simp[D',G];exact⟨o,((cM.refl W d).cr s).trans T,A,HT⟩
def tF:GB:=⟨[],[],1,(b9,0),[]⟩
structure dv(bs:List GB)(b t:Nat)(B T:GB):Prop where
 hb:bs[b]?=Z B
 ht:bs[t]?=Z T
 k2:B.kind=2
 to:B.to=[(t:Int)]
 ne:t≠b
 ph:T.aP=[]
 one:Y (aI bs t)<=1
def dI(bs:List GB)(b t:Nat)(B T:GB)(i:Nat)(X:GB):GB:=
 if i=t then tF else if i=b then⟨(if(i:Int)∈T.to then Dt (aI bs i) t b X else X).aP,B.list++T.list,T.kind,T.on,T.to⟩ else if(i:Int)∈T.to then Dt (aI bs i) t b X else X
def cf(bs:List GB)(b t:Nat)(B T:GB):List GB:=bs.mapIdx λi X=>dI bs b t B T i X
def gQ{b t:Nat}{B T X:GB}(h:bs[i]?=Z X):(cf bs b t B T)[i]?=Z (dI bs b t B T i X):=by unfold cf;rw[bn,h];rfl
def ig(bs:List GB)(b t:Nat)(B T:GB):Y (cf bs b t B T)=Y bs:=by simp[cf]
def fT{b t:Nat}{B T d:GB}(h:(cf bs b t B T)[i]?=Z d):∃X,bs[i]?=Z X/\d=dI bs b t B T i X:=by have⟨X,d⟩:=aR bs i (by rw[<-ig bs b t B T];exact(cR.mp h).1);rw[gQ d] at h;cases h;exact⟨X,d,Q⟩
def dH(bs:List GB)(b t:Nat)(B T:GB)(i:Nat)(X:GB):(dI bs b t B T i X).to=if i=t then [] else if i=b then T.to else X.to:=by unfold dI;split;rfl;split;rfl;split<;>rfl
def dK(bs:List GB)(b t:Nat)(B T:GB)(i:Nat)(X:GB):(dI bs b t B T i X).kind=if i=t then 1 else if i=b then T.kind else X.kind:=by unfold dI;split;rfl;split;rfl;split<;>rfl
def mf{b t:Nat}{B T:GB}{X:GB}(h:i≠t):(dI bs b t B T i X).aP=(if(i:Int)∈T.to then Dt (aI bs i) t b X else X).aP:=by unfold dI;rw[bM h];split;rfl;rfl
section
variable{bs:List GB}{b t:Nat}{B T:GB}
def dv.YY(c:dv bs b t B T){X:GB}(h:bs[j]?=Z X)(s:(t:Int)∈X.to):j=b:=by
 have h1:(b:Int)∈aI bs t:=cu.2 ⟨b,Q,B,c.hb,by rw[c.to];simp⟩;have m:(j:Int)∈aI bs t:=cu.2 ⟨j,Q,X,h,s⟩;have o:=c.one
 match d:aI bs t with
 |[]=>rw[d] at h1;simp at h1
 |[x]=>rw[d] at h1 m;simp at h1 m;omega
 |x::y::l=>rw[d] at o;simp at o
def dv.self(c:dv bs b t B T):(t:Int)∉T.to:=λh=>c.ne (c.YY c.ht h)
def dv.not(c:dv bs b t B T)(h:i≠t):(b:Int)∉aI bs i:=λo=>by
 have⟨j,e,X,d,m⟩:=cu.1 o;have:j=b:=J
 subst this;rw[c.hb] at d;cases d;rw[c.to] at m;simp at m;omega
def dv.mem(c:dv bs b t B T)(h:i≠t) :a∈aI (cf bs b t B T) i↔(a=b/\(i:Int)∈T.to)\/(a≠t/\a∈aI bs i):=by rw[cu];constructor;rintro⟨j,rfl,d,C,d⟩;obtain⟨X,m,rfl⟩:=fT C;rw[dH] at d;by_cases o:j=t;rw[bH o] at d;simp at d;rw[bM o] at d;by_cases s:j=b;rw[bH s] at d;exact fc ⟨J,d⟩;rw[bM s] at d;exact ft ⟨J,cu.2 ⟨j,Q,X,m,d⟩⟩;rintro(⟨rfl,d⟩|⟨D,d⟩);exact⟨b,Q,_,gQ c.hb,by rw[dH,bM (a7 c.ne),bH rfl];exact d⟩;obtain⟨j,rfl,X,m,u⟩:=cu.1 d;refine⟨j,Q,_,gQ m,?_⟩;rw[dH,bM J,bM (λe=>by subst e;exact c.not h d)];exact u
def dv.Sj(c:dv bs b t B T) :(t:Int)∈aI bs i↔(i:Int)∈T.to:=by
 rw[cu];constructor
 .rintro⟨j,e,X,d,m⟩;have:j=t:=J
  subst this;rw[c.ht] at d;cases d;exact m
 exactλh=>⟨t,Q,T,c.ht,h⟩
def dv.perm(c:dv bs b t B T)(h:i≠t):(aI (cf bs b t B T) i).Perm ((aI bs i).map λa:Int=>if a=t then(b:Int) else a):=by refine(List.perm_ext_iff_of_nodup (eC _ _) ?_).2 λa=>?_;refine gw.2 ((eC bs i).imp_of_mem fun {x y} o hy eF e=>?_);by_cases d:x=t;by_cases m:y=t;exact eF (d.trans m.symm);rw[bH d,bM m] at e;exact c.not h (e▸hy);by_cases m:y=t;rw[bM d,bH m] at e;exact c.not h (e▸o);rw[bM d,bM m] at e;exact eF e;rw[c.mem h,iT];constructor;rintro(⟨rfl,s⟩|⟨u,s⟩);exact⟨t,c.Sj.2 s,bH Q⟩;exact⟨a,s,bM u⟩;rintro⟨x,o,e⟩;by_cases d:x=t;rw[bH d] at e;exact fc ⟨e.symm,c.Sj.1 (d▸o)⟩;rw[bM d] at e;exact ft ⟨e▸d,e▸o⟩
def dv.aiA(c:dv bs b t B T)(h:i≠t):Y (aI (cf bs b t B T) i)=Y (aI bs i):=by rw[(c.perm h).length_eq,yd]
def j_(h:x∈pk):∃k:Nat,aO pk x=k/\pk[k]?=Z x/\k<Y pk:=by
 induction pk with
 |nil=>simp at h
 |cons y ys d=>
  unfold aO;by_cases e:y=x;exact⟨0,by rw[bH e];rfl,av e,ag⟩;have⟨k,h1,m,o⟩:=d ((bd.1 h).resolve_left (a7 e));exact⟨k+1,by rw[bM e,h1,bM J];rfl,ak m,by simp;omega⟩
def aiD(h:bU∈pk):I9 bU now pk<Y pk:=tx.2 ⟨bU,h,ag⟩
def agz(h:bU∈pk)(d:Y row=Y pk):Y (N7 pk bU now row)=Y row:=by have⟨k,h1,m,o⟩:=j_ h;have:=aiD (now:=now) h;unfold I9 at this;unfold N7;rw[h1,Xn,BX (by rw[j6 J];omega),j6 J];omega
def dv.eb(c:dv bs b t B T)(E:EB bs):EB (cf bs b t B T):=by
 have I:=ig bs b t B T;have g:∀e∈cf bs b t B T,∃(i:Nat) (X:GB),bs[i]?=Z X/\e=dI bs b t B T i X:=λe s=>by have⟨i,f⟩:=iF s;have⟨X,h1,d⟩:=fT f;exact⟨i,X,h1,d⟩
 have D:∀(i:Nat)(X:GB),bs[i]?=Z X->∀p∈(if(i:Int)∈T.to then Dt (aI bs i) t b X else X).aP,Y p.row=Y (aI bs i):=λi X o p m=>by
  split at m;rename_i G;unfold Dt at m;obtain⟨q,H,rfl⟩:=iT.1 m;show(N7 _ _ _ q.row).length=_;have:=E.rows i X o q H;rw[agz (c.Sj.2 G) this,this]
  exact E.rows i X o p m
 refine⟨aw E.n1,aw E.n50,λe s=>?_,λe s a u=>?_,λi e s p m=>?_,λe s=>?_⟩;obtain⟨i,X,o,rfl⟩:=g e s;rw[dH,dK];by_cases d:i=t;rw[bH d,bH d];exact fc ⟨Q,Q⟩;rw[bM d,bM d];by_cases C:i=b;rw[bH C,bH C];exact E.kind T (cK c.ht);rw[bM C,bM C];exact E.kind X (cK o);obtain⟨i,X,o,rfl⟩:=g e s;rw[I];rw[dH] at u;split at u;simp at u;split at u;exact E.to T (cK c.ht) a u;exact E.to X (cK o) a u;obtain⟨X,o,rfl⟩:=fT s;by_cases d:i=t;unfold dI at m;rw[bH d] at m;simp[tF] at m;rw[mf d] at m;rw[c.aiA d];exact D i X o p m
 .obtain⟨i,X,o,rfl⟩:=g e s;have h0:=E.pl X (cK o);by_cases d:i=t
  unfold dI;rw[bH d];simp[tF];rw[mf d];split;simpa [Dt] using h0;exact h0
def dv.others(c:dv bs b t B T){x:Nat}(s:x≠b)(no:∀u X U,¬dv bs x u X U):∀u X U,¬dv (cf bs b t B T) x u X U:=λu d d d=>by
 have⟨X,G,m⟩:=fT d.hb;have⟨U,I,H⟩:=fT d.ht;have E:x≠t:=λe=>by have:=d.k2;rw[m,dK,bH e] at this;omega
 have C:=d.k2;have o:=d.to;rw[m,dK,bM E,bM s] at C;rw[m,dH,bM E,bM s] at o;have D:u≠t:=λe=>s (c.YY G (by rw[o,e];simp));refine no u X U ⟨G,I,C,o,d.ne,?_,?_⟩
 have:=d.ph;rw[H,mf D] at this;split at this;simpa [Dt] using this;exact this;rw[<-c.aiA D];exact d.one
def zV(bs:List GB):Nat:=(bs.map λb=>Y b.to).sum
def zu:∀(l:List Nat)(i:Nat)(x y:Nat),l[i]?=Z y->(l.set i x).sum+y=l.sum+x
 |[],i,x,y,h=>by simp at h
 |z::l,0,x,y,h=>by simp at h;subst h;simp;omega
 |z::l,i+1,x,y,h=>by simp at h;have:=zu l i x y h;simp;omega
def dv.less(c:dv bs b t B T):zV (cf bs b t B T)<zV bs:=by
 have e:(cf bs b t B T).map (λb=>Y b.to)=((bs.map λb=>Y b.to).set b (Y T.to)).set t 0:=by refine Bc λi=>?_;rw[gu,fq,fq,lj,yd,gu];by_cases m:i<Y bs;have⟨X,s⟩:=aR bs i m;rw[gQ s,s,zz,dH];by_cases d:i=t;subst d;simp[m];by_cases o:i=b;subst o;simp[d,a7 d,m];simp[d,o,a7 d,a7 o];rw[xE (by rw[ig];omega),xE J];have:=(cR.mp c.hb).1;have:=(cR.mp c.ht).1;rw[bM J,bM J]
 unfold zV;rw[e];have h1:=zu (bs.map λb=>Y b.to) b (Y T.to) 1 (by rw[gu,c.hb,zz,c.to];rfl);have u:=zu ((bs.map λb=>Y b.to).set b (Y T.to)) t 0 (Y T.to) (by rw[fq,bM (a7 c.ne),gu,c.ht];rfl);omega
inductive Steps:List GB->List GB->Prop
 |refl (bs:List GB):Steps bs bs
 |step {bs bs1:List GB} {b t:Nat} {B T:GB} (s:Steps bs bs1) (c:dv bs1 b t B T):Steps bs (cf bs1 b t B T)
def Steps.trans{a b c:List GB}(h:Steps a b)(k:Steps b c):Steps a c:=by
 induction k with
 |refl=>exact h
 |step _ c d=>exact .step d c
end
def vN:YB:=⟨cU,cU,cU,1,(b9,0),[],[],[]⟩
def pF(z r:YB)(a:SV):YB:= {z with L:=a,ls:=z.ls++r.ls}
section
variable{h h':aB}{n0 b t:Nat}{B L':SV}{ys:List YB}{z r:YB}{S:Nat->Prop}
def Uy(s:ys[b]?=Z z)(G:ys[t]?=Z r)(o:Option (Nat×Lo))(c:Nat)(m:fx B (ys.set b (pF z r L')) o=Z c):(o=Z (b,.L)/\fy L'=Z c)\/∃C,fx B ys C=Z c/\C≠Z (b,.L)/\(C=o\/∃j,o=Z (b,.X (Y z.ls+j))/\C=Z (t,.X j)):=by
 have D:=(cR.mp s).1
 match o with
 |none=>exact ft ⟨K,m,nofun,fc Q⟩
 |some (k,l)=>
  by_cases e:k=b
  .subst e;have d:(pF z r L').loc l=Z c:=by simpa [fx,D] using m
   match l with
   |.L=>exact fc ⟨Q,d⟩
   |.P=>exact ft ⟨Z (_,.P),(by rw[cJ s];exact d),nofun,fc Q⟩
   |.T=>exact ft ⟨Z (_,.T),(by rw[cJ s];exact d),nofun,fc Q⟩
   |.R j=>exact ft ⟨Z (_,.R j),(by rw[cJ s];exact d),nofun,fc Q⟩
   |.X j=>
    simp only[YB.loc,pF] at d;rcases Bb j (Y z.ls) with u|u
    .rw[Jf u] at d;exact ft ⟨Z (_,.X j),(by rw[cJ s];exact d),nofun,fc Q⟩
    .rw[Hv u] at d;exact ft ⟨Z (t,.X (j-Y z.ls)),(by rw[cJ G];exact d),nofun,ft ⟨j-Y z.ls,(by rw[Nat.add_sub_cancel' u]),Q⟩⟩
  refine ft ⟨Z (k,l),?_,λE=>e (by cases E;rfl),fc Q⟩;simp only[fx] at m⊢;rw[fq,bM (a7 e)] at m;exact m
def FZ.join(w:FZ h n0 B ys)(u:cy h)(m:ys[b]?=Z z)(I:ys[t]?=Z r)(g:az S h h')(i:∀c,S c->∀o,fx B ys o=Z c->o=K\/o=Z (b,.L))(x:eo eH h' B (ys.set b (pF z r L')))(H:eo kh h' L' (z.ls++r.ls))(n:∀c,fy L'=Z c->fy z.L=Z c\/h.ax<=c)(E:n0<=h.ax):FZ h' n0 B (ys.set b (pF z r L'))/\∀c,cm B (ys.set b (pF z r L')) c->cm B ys c\/h.ax<=c:=by
 have E:=(cR.mp m).1;have f:=Uy (B:=B) (L':=L') m I;have no:∀ {k:Nat} {y:YB},ys[k]?=Z y->∀c l,S c->(k≠b\/l≠ .L)->y.loc l≠Z c:=fun {k y} hy c l d kj e=>by rcases i c d (Z (k,l)) (by rw[cJ hy];exact e) with h|h<;>cases h;rcases kj with h|h<;>exact h rfl
 have i:=w.at m;refine⟨⟨x,λx x=>?_,λa M c A v=>?_,λo c e=>?_⟩,λc ⟨o,e⟩=>?_⟩
 .have⟨k,D⟩:=iF x;rw[fq] at D;by_cases e:b=k
  .subst e;rw[bH Q,bH E] at D;cases D;refine⟨i.P.go u g λc d=>no m c .P d (ft nofun),H,i.T.go u g λc d=>no m c .T d (ft nofun),λq s=>?_,λq s=>?_⟩
   .have⟨j,E⟩:=iF s;exact(i.ps q s).go u g λc d=>by rw[<-YB.jM (y:=z) E];exact no m c _ d (ft nofun)
   .rcases jL.1 s with s|s
    .have⟨j,E⟩:=iF s;exact(i.ls q s).go u g λc d=>by rw[<-YB.pW E];exact no m c _ d (ft nofun)
    .have⟨j,E⟩:=iF s;exact((w.at I).ls q s).go u g λc d=>by rw[<-YB.pW E];exact no I c _ d (ft nofun)
  rw[bM e] at D;exact(w.at D).go u g λc l d=>no D c l d (fc (a7 e))
 .have E:∀o c,fy L'=Z c->fx B ys o=Z c->o=Z (b,.L):=λo c h1 G=>by rcases n c h1 with h|h;exact(w.uO (Z (b,.L)) o c (by rw[cJ m];exact h) G).symm;have:=w.lt u G;omega
  rcases f a c A with⟨rfl,I⟩|⟨D,I,A,i⟩;rcases f M c v with⟨rfl,C⟩|⟨H,C,x,d⟩;exact fc rfl;exact absurd (E H c I C) x
  .rcases f M c v with⟨rfl,C⟩|⟨H,C,x,d⟩;exact absurd (E D c C I) A
   .have A:Xo D->Xo a:=λU=>by rcases i with rfl|⟨j,rfl,rfl⟩;exact U;trivial
    have E:Xo H->Xo M:=λU=>by rcases d with rfl|⟨j,rfl,rfl⟩;exact U;trivial
    rcases w.inj D H c I C with h|⟨_,h1,G⟩;rcases i with rfl|⟨j,rfl,rfl⟩;rcases d with rfl|⟨j,rfl,rfl⟩;exact fc h;exact ft ⟨trivial,by rw[h];trivial,trivial⟩;exact ft ⟨trivial,trivial,E (by rw[<-h];trivial)⟩;exact ft ⟨trivial,A h1,E G⟩
 rcases f o c e with⟨rfl,p⟩|⟨V,p,_,_⟩;rcases n c p with h|h;exact w.new (Z (b,.L)) c (by rw[cJ m];exact h);omega;exact w.new V c p;rcases f o c e with⟨rfl,p⟩|⟨V,p,_,_⟩;exact(n c p).imp (λh=>⟨Z (b,.L),by rw[cJ m];exact h⟩) id;exact fc ⟨V,p⟩
def DU(z r:YB):YB:= {z with kind:=r.kind,on:=r.on,T:=r.T,to:=r.to}
def VC(m:ys[b]?=Z z)(E:ys[t]?=Z r)(I:t≠b)(o:Option (Nat×Lo))(c:Nat)(d:fx B ((ys.set b (DU z r)).set t vN) o=Z c):(∀l,o≠Z (t,l))/\∃C,fx B ys C=Z c/\((C=o/\o≠Z (b,.T))\/(o=Z (b,.T)/\C=Z (t,.T))):=by
 have G:=(cR.mp m).1;have H:=(cR.mp E).1
 match o with
 |none=>exact⟨nofun,K,d,fc ⟨Q,nofun⟩⟩
 |some (k,l)=>
  by_cases u:k=t
  .subst u;have:vN.loc l=Z c:=by simpa [fx,H] using d
   cases l<;>simp[vN,YB.loc,fy,cU] at this
  .refine⟨λH e=>u (by cases e;rfl),?_⟩;simp only[fx] at d;rw[fq,bM (a7 u),fq] at d;by_cases D:b=k
   .subst D;rw[bH Q,bH G] at d;have s:(DU z r).loc l=Z c:=d
    match l with
    |.T=>exact⟨Z (t,.T),(by rw[cJ E];exact s),ft ⟨Q,Q⟩⟩
    |.P=>exact⟨Z (_,.P),(by rw[cJ m];exact s),fc ⟨Q,nofun⟩⟩
    |.L=>exact⟨Z (_,.L),(by rw[cJ m];exact s),fc ⟨Q,nofun⟩⟩
    |.R j=>exact⟨Z (_,.R j),(by rw[cJ m];exact s),fc ⟨Q,nofun⟩⟩
    |.X j=>exact⟨Z (_,.X j),(by rw[cJ m];exact s),fc ⟨Q,nofun⟩⟩
   rw[bM D] at d;exact⟨Z (k,l),d,fc ⟨Q,λe=>D (by cases e;rfl)⟩⟩
def FZ.take(w:FZ h n0 B ys)(i:cy h)(m:ys[b]?=Z z)(u:ys[t]?=Z r)(M:t≠b)(g:az S h h')(D:∀c,S c->∀o,fx B ys o=Z c->o=K)(A:eo eH h' B ((ys.set b (DU z r)).set t vN)):FZ h' n0 B ((ys.set b (DU z r)).set t vN)/\∀c,cm B ((ys.set b (DU z r)).set t vN) c->cm B ys c:=by
 have L:=(cR.mp m).1;have V:=(cR.mp u).1;have f:=VC (B:=B) m u M;have H:∀ {k:Nat} {y:YB},ys[k]?=Z y->BZ h' y:=fun {k y} hy=>(w.at hy).go i g λc l I e=>by have:=D c I (Z (k,l)) (by rw[cJ hy];exact e);cases this
 refine⟨⟨A,λd W=>?_,λa v c X E=>?_,λo c e=>?_⟩,λc ⟨o,e⟩=>?_⟩;have⟨k,d⟩:=iF W;rw[fq,lj] at d;by_cases x:t=k;rw[bH x,bH V] at d;cases d;exact⟨eo.nil _ _,eo.nil _ _,eo.nil _ _,λq C=>by simp[vN] at C,λq C=>by simp[vN] at C⟩;rw[bM x,fq] at d;by_cases G:b=k;rw[bH G,bH L] at d;cases d;exact⟨(H m).P,(H m).L,(H u).T,(H m).ps,(H m).ls⟩;rw[bM G] at d;exact H d;have⟨P,L,D,U⟩:=f a c X;have⟨X,F,s,I⟩:=f v c E;rcases U with⟨rfl,j⟩|⟨rfl,rfl⟩;rcases I with⟨rfl,T⟩|⟨rfl,rfl⟩;exact w.inj _ _ c D s;exact absurd (w.uO (Z (t,.T)) L c s D).symm (P _);rcases I with⟨rfl,T⟩|⟨rfl,rfl⟩;exact absurd (w.uO (Z (t,.T)) F c D s).symm (X _);exact fc rfl;have⟨_,E,p,_⟩:=f o c e;exact w.new E c p;have⟨_,E,p,_⟩:=f o c e;exact⟨E,p⟩
end
def pw{bs d:List GB}(u:Y d=Y bs)(h:∀(i:Nat)(x b:GB),bs[i]?=Z x->d[i]?=Z b->b.to=x.to)(b:Int):aI d b=aI bs b:=by unfold aI jO;rw[u];congr 1;refine List.filter_congr λi m=>?_;have m:=QM.1 m;have o:bs[i]?=Z bs[i]:=iK m;have s:d[i]?=Z (d[i]'J):=iK J;have:=h i _ _ o s;congr 1;rw[o,s];simp[this]
def EB.list{bs:List GB}(E:EB bs){b:Nat}{X:GB}(C:bs[b]?=Z X)(l:List GI):EB (bs.set b {X with list:=l})/\∀i,aI (bs.set b {X with list:=l}) i=aI bs i:=by
 have G:=(cR.mp C).1;have o:∀(i:Nat)(y:GB),(bs.set b {X with list:=l})[i]?=Z y->∃x,bs[i]?=Z x/\y= {x with list:=y.list} :=λi y d=>by rw[fq] at d;by_cases e:b=i;subst e;rw[bH Q,bH G] at d;cases d;exact⟨X,C,Q⟩;rw[bM e] at d;exact⟨y,d,Q⟩
 have A:∀i,aI (bs.set b {X with list:=l}) i=aI bs i:=pw ag λi x H h1 m=>by have⟨y,u,D⟩:=o i H m;rw[h1] at u;cases u;rw[D]
 have a:∀y∈bs.set b {X with list:=l},∃x∈bs,y= {x with list:=y.list} :=λy d=>by have⟨i,I⟩:=iF d;have⟨x,h1,m⟩:=o i y I;exact⟨x,cK h1,m⟩
 refine⟨⟨ak E.n1,ak E.n50,λy d=>?_,λy d=>?_,λi y d p s=>?_,λy d=>?_⟩,A⟩;have⟨x,h1,m⟩:=a y d;rw[m];exact E.kind x h1;have⟨x,h1,m⟩:=a y d;rw[m,lj];exact E.to x h1;have⟨x,h1,m⟩:=o i y d;rw[m] at s;rw[A];exact E.rows i x h1 p s;have⟨x,h1,m⟩:=a y d;rw[m];exact E.pl x h1
def Tk(D:cy h){B:SV}(W:FZ h n0 B ys)(v:n0<=h.ax){X b f s:Nat}{to:Nat}(m:ys[b]?=Z z)(l:ys[to]?=Z r)(i:B.a=Z ⟨f,0,K⟩)(k:dR h X (GZ r) s)(d:Y z.ls+Y r.ls<2000000)(p:bX e 4=dB (Z ⟨f,b*6,K⟩))(n:cg e 6 X)(t:∀H h' a,aH ChD e H->az (cm B ys) h h'->FZ h' n0 B (ys.set b (pF z r a))->(∀c,cm B (ys.set b (pF z r a)) c->cm B ys c\/h.ax<=c)->C .normal H h'):aN FF WO e h C:=by
 have A:=W.at m;have w:=W.at l;have H:=(cR.mp m).1;obtain⟨I,g,H,H,M,H,H,H,H,j⟩:=W.A.el m;rw[i] at M;cases M;have j:=H 1 1 ai;simp[-ay] at j;have H:=k;simp[GZ] at H;have E:=D.bU k;unfold WO;simp[p,n,H,j,-ay,aK,aD H,E];have H:az aV h (tick h):=bk D;have k:=H.ok;generalize tick h=h1 at k H;have⟨a,j,E,n,V,q,_⟩:=DZ (E:=kh) (bytes:=80) (z:=[dC ef 0,dC ef 0,dd b9,dC ef 0,dd b9,dC ef 0,dC ef 0,c6 K 0 0]) k rfl (A.L.cr D H) (w.L.sl.cr D H) d ai;have A:∀c,fy a=Z c->bD a.v c:=λc d=>by rcases n.2 with⟨U,_⟩|⟨w,_,_,_,U,_⟩;simp[fy,U] at d;rw[cj U] at d;cases d;exact fK U
 have w:∀c,bD z.L.v c->fy B≠Z c:=λc d e=>by have:=W.uO K (Z (b,.L)) c e (by rw[cJ m];exact dV d);cases this
 have y:=(W.A.cr D H).go k V λc d=>w c d;obtain⟨I,I,u,w,M,B,w,x,w,w⟩:=y.el m;rw[i] at M;cases M;have k:=x 1 1 ai;simp at k;refine kW E ?_;simp[p,B,k];have k:az (· =f) j (put j f (b*6+1) I [c6 a.a a.l a.c] u):=aX V.ok B;have p:=w (pF z r a) 1 [c6 a.a a.l a.c] ag rfl (put j f (b*6+1) I [c6 a.a a.l a.c] u) ⟨_,bc _ _ _ _ _ _⟩;have B:=H.ax;have B:=W.A.lt D (cj i);have B:∀c,fy a=Z c->fy z.L=Z c\/h.ax<=c:=λc d=>by rcases q c (A c d) with h|h;exact fc (dV h);exact ft J
 have G:az (λc=>bD z.L.v c\/c=f) h (put j f (b*6+1) I [c6 a.a a.l a.c] u):=(H.cr.trans' V aj (λ_ _ h=>fc h)).trans' k aj (λ_ _ h=>ft h);have H:=n.go V.ok k λc d e=>by rw[d] at e;rcases B _ e with h|h;have:=W.uO K (Z (b,.L)) f (cj i) (by rw[cJ m];exact h);cases this;omega
 have⟨k,f⟩:=W.join D m l G (λc d o l=>by rcases d with h|h;exact ft (W.uO (Z (b,.L)) o c (by rw[cJ m];exact dV h) l).symm;exact fc (W.uO K o c (by rw[h];exact cj i) l).symm) p H B v;refine t _ _ a ?_ (G.cX λc _ d=>?_) k f
 .repeat (refine aH.set ?_)
  exact aH.refl _ _
 rcases d with h|h;exact⟨Z (b,.L),by rw[cJ m];exact dV h⟩;exact⟨K,by rw[h];exact cj i⟩
def Qn(t:cy h){B f:SV}(sO:n0<=h.ax){X b n s F U:Nat}{to:Nat}(O:ys[b]?=Z z)(ht:ys[to]?=Z r)(c:dv (ys.map YB.g) b to z.g r.g)(E':EB (ys.map YB.g))(W:FZ h n0 B (ys.set b (pF z r f)))(E:B.a=Z ⟨n,0,K⟩)(hX:dR h X (GZ r) s)(nX:¬cm B (ys.set b (pF z r f)) X)(hF:dR h F (aC name p rg B) U)(P:¬cm B (ys.set b (pF z r f)) F)(f1:cg e 1 F)(f3:bz e 3 b)(f4:bX e 4=dB (Z ⟨n,b*6,K⟩))(f5:bz e 5 to)(f6:cg e 6 X)(C':∀e' h' m,aH ChA e e'->az (cm B (ys.set b (pF z r f))) h h'->FZ h' n0 B m->(∀c,cm B m c->cm B (ys.set b (pF z r f)) c\/h.ax<=c)->(xk B ys->xk B m)->m.map YB.g=cf (ys.map YB.g) b to z.g r.g->C .normal e' h'):aN FF Qm e h C:=by
 have oi:=(cR.mp O).1;have yE:=(cR.mp ht).1;have⟨v,DI⟩:∃v,v=pF z r f:=⟨_,Q⟩;have⟨d,V⟩:∃d,d=ys.set b v:=⟨_,Q⟩;have kk:=Uy (B:=B) (L':=f) O ht;rw[<-DI,<-V] at W nX P C' kk;have ht1:d[to]?=Z r:=by rw[V,fq,bM (a7 c.ne)];exact ht
 have QV:d[b]?=Z v:=by rw[V,fq,bH Q,bH oi]
 have U':d.map YB.g=(ys.map YB.g).set b {z.g with list:=z.g.list++r.g.list} :=by rw[V,dr,DI];congr 1;simp[pF,YB.g]
 have yg:∀ {k:Nat} {y:YB},ys[k]?=Z y->(ys.map YB.g)[k]?=Z y.g:=λh=>by rw[gu,h];rfl
 have⟨E1,A1⟩:=E'.list (yg O) (z.g.list++r.g.list);rw[<-U'] at E1 A1;unfold Qm;simp[f1,f3,f5];have Rn:=RE t W sO hF P (bU:=to) (now:=b) ht1 E1;refine bm.call (by simpa [f1] using Rn) ?_;rintro _ u⟨m,H,Mz,HT⟩;have W2:=H.w;have fh:=H.g.get t hX nX;have e_:=H.g.get t hF P;have lX:=t.wf _ _ hX;have lF:=t.wf _ _ hF;have u0:Y m=Y ys:=by have:=congrArg dk Mz;simp[Ms,V] at this;exact this
 have⟨D,L⟩:=aR m b;have⟨q,G⟩:=aR m to;have ezb:=HT b v D QV L;have ezt:=HT to r q ht1 G;have⟨Z4,g,oB,sB,N,wW,Nl,dM,cV,eI⟩:=W2.A.el L;rw[E] at N;cases N;have Nk:=dM 2 4 ai;simp at Nk;have dZ:=fh;simp[GZ] at dZ;have oh:=e_;have dq:=W2.A.len;simp[aC] at oh;rw[E,dq,u0] at oh;have oB:cm B d n:=⟨K,cj E⟩;have nFB:¬F=n:=λe=>P (e▸oB);have A3:=eI (DU D q) 2 [dC ef r.kind,dd r.on.1,dC ef r.on.2,c6 r.T.a r.T.l r.T.c] ag (by rw[ezt];rfl) (put u n (b*6+2) g [dC ef r.kind,dd r.on.1,dC ef r.on.2,c6 r.T.a r.T.l r.T.c] _) ⟨_,bc _ _ _ _ _ _⟩;have ht3:(m.set b (DU D q))[to]?=Z q:=by rw[fq,bM (a7 c.ne)];exact G
 have⟨Z4,cs3,oB3,sB3,N,QR,az3,Ud,ant,Uo⟩:=A3.el ht3;rw[E] at N;cases N;have ZE:=Ud 0 6 ai;simp at ZE;have S:=aX (off:=b*6+2) (vs:=[dC ef r.kind,dd r.on.1,dC ef r.on.2,c6 r.T.a r.T.l r.T.c]) H.g.ok wW;have yB:=S.get H.g.ok oh nFB;simp[f4,f6,dZ,wW,Nk];generalize put u n (b*6+2) g _ _=T at*;simp[f1,f5,yB,QR,ZE,yE];have gw2:=aX (off:=to*6) (vs:=[c6 K 0 0,c6 K 0 0,dC ef 1,dd b9,dC ef 0,c6 K 0 0]) S.ok QR;have A5:=Uo vN 0 [c6 K 0 0,c6 K 0 0,dC ef 1,dd b9,dC ef 0,c6 K 0 0] ag rfl (put T n (to*6) cs3 [c6 K 0 0,c6 K 0 0,dC ef 1,dd b9,dC ef 0,c6 K 0 0] oB3) ⟨T.clock,ag⟩;have⟨W5,s5⟩:=W2.take H.g.ok L G c.ne (S.trans gw2) (λx I o ho=>(W2.uO K o x (by rw[I];exact cj E) ho).symm) A5;have tk:=VC (B:=B) L G c.ne;refine C' _ _ ((m.set b (DU D q)).set to vN) ?_ (H.g.trans' (S.trans gw2) aj λx _ I=>by rw[I];exact oB) W5 (λx I=>H.s x (s5 x I)) (λI a a' x ha GY=>?_) ?_
 .repeat (refine aH.set ?_)
  exact aH.refl _ _
 .rcases W5.inj a a' x ha GY with h|⟨_,x1,x2⟩;exact fc h;have back:∀o,Xo o->fx B ((m.set b (DU D q)).set to vN) o=Z x->(∀l,o≠Z (to,l))/\∃A,fx B ys A=Z x/\(A=o\/∃j,o=Z (b,.X (Y z.ls+j))/\A=Z (to,.X j)):=λo xo ho=>by
   have⟨n1,w,p1,q1⟩:=tk o x ho;refine⟨n1,?_⟩;rcases q1 with⟨rfl,_⟩|⟨rfl,_⟩
   .have p2:fx B d w=Z x:=by
     match w,xo with
     |some (k,.X j),_=>
      have⟨z',h1,u⟩:=OO.1 p1;have⟨y,M⟩:=aR d k (by have:=(cR.mp h1).1;rw[V];simp;omega);rw[cJ M];rw[HT k y z' M h1] at u;exact u
    rcases kk w x p2 with⟨rfl,_⟩|⟨A,h1,_,u⟩;exact xo.elim;exact⟨A,h1,u⟩
   exact xo.elim
  have⟨n1,w,p1,q1⟩:=back a x1 ha;have⟨n2,o2,p2,q2⟩:=back a' x2 GY;have e:=(I w o2 x p1 p2).elim id λh=>h.1.elim;rcases q1 with rfl|⟨j,rfl,rfl⟩
  rcases q2 with rfl|⟨j,rfl,rfl⟩;exact fc e;exact absurd e (n1 _);rcases q2 with rfl|⟨j',rfl,rfl⟩;exact absurd e.symm (n2 _);cases e;exact fc rfl
 .refine Bc λi=>?_;rw[dr,dr,fq,fq];simp only[lj,yd,u0];by_cases hi:i<Y ys
  .have⟨y,M⟩:=aR ys i hi;rw[gQ (yg M)];unfold dI;by_cases e1:to=i;subst e1;rw[bH Q,bH hi,bH rfl];rfl
   .rw[bM e1,bM (a7 e1)];by_cases A:b=i
    .subst A;rw[O] at M;cases M;rw[bH Q,bH hi,bH rfl];have h1:(m.map YB.g)[b]?=Z D.g:=by rw[gu,L];rfl
     have u:(d.map YB.g)[b]?=Z {z.g with list:=z.g.list++r.g.list} :=by rw[U',fq,bH Q,bH (ak oi)]
     rw[Mz,GD u,A1] at h1;have T:=bI h1;have e3:(DU D q).g=⟨D.g.aP,D.g.list,r.g.kind,r.g.on,r.g.to⟩:=by rw[ezt];rfl
     rw[e3,<-T];by_cases w:(b:Int)∈r.to;have Kp:(b:Int)∈r.g.to:=w;rw[bH w,bH Kp];rfl;have Kp:¬(b:Int)∈r.g.to:=w;rw[bM w,bM Kp]
    .rw[bM A,bM (a7 A),Mz];have u:(d.map YB.g)[i]?=Z y.g:=by rw[U',fq,bM A,yg M]
     rw[GD u,A1];rfl
  rw[bM J,bM J,xE (by simp;omega),xE (by rw[ig];simp;omega)]
def iH(bs:List GB):Nat:=(bs.map λb=>Y b.list).sum
def agm:∀(l:List Nat)(i x:Nat),l[i]?=Z x->x<=l.sum
 |[],i,x,h=>by simp at h
 |z::l,0,x,h=>by simp at h;subst h;simp
 |z::l,i+1,x,h=>by simp at h;have:=agm l i x h;simp;omega
def CG{b:GB}(h:bs[i]?=Z b):Y b.list<=iH bs:=agm _ i _ (by rw[gu,h];rfl)
def dv.lists{b t:Nat}{B T:GB}(c:dv bs b t B T):iH (cf bs b t B T)=iH bs:=by
 have e:(cf bs b t B T).map (λb=>Y b.list)=((bs.map λb=>Y b.list).set b (Y B.list+Y T.list)).set t 0:=by refine Bc λi=>?_;rw[gu,fq,fq,lj,yd,gu];by_cases m:i<Y bs;have⟨X,s⟩:=aR bs i m;rw[gQ s,s,zz];unfold dI;by_cases d:i=t;subst d;simp[m,tF];by_cases o:i=b;subst o;simp[d,a7 d,m];simp[d,o,a7 d,a7 o];split<;>rfl;rw[xE (by rw[ig];omega),xE J];have:=(cR.mp c.hb).1;have:=(cR.mp c.ht).1;rw[bM J,bM J]
 unfold iH;rw[e];have h1:=zu (bs.map λb=>Y b.list) b (Y B.list+Y T.list) (Y B.list) (by rw[gu,c.hb];rfl);have u:=zu ((bs.map λb=>Y b.list).set b (Y B.list+Y T.list)) t 0 (Y T.list) (by rw[fq,bM (a7 c.ne),gu,c.ht];rfl);omega
def wP(bs:List GB)(x:Nat):Prop:=∀u X U,¬dv bs x u X U
structure ChZ(h0 h':aB)(n0:Nat)(B:SV)(iU ys:List YB):Prop where
 T:cM h0 h' n0 B iU B ys
 E:EB (ys.map YB.g)
 S:Steps (iU.map YB.g) (ys.map YB.g)
 l:iH (ys.map YB.g)=iH (iU.map YB.g)
 len:Y ys=Y iU
def awB(h0:aB)(n0:Nat)(B:SV)(iU:List YB)(b F R d:Nat)(m:Nat)(e:Env)(h':aB):Prop:=
 ∃ys:List YB,m=zV (ys.map YB.g)/\cg e 1 F/\cg e 2 R/\bz e 3 b/\bX e 4=dB (Z ⟨d,b*6,K⟩)/\ChZ h0 h' n0 B iU ys/\∀x,x≠b->wP (iU.map YB.g) x->wP (ys.map YB.g) x
def Tl(D:cy h0){B:SV}(T:n0<=h0.ax)(T:FZ h0 n0 B iU)(t:EB (iU.map YB.g))(L:iH (iU.map YB.g)<1000000){F R b L U:Nat}(A:B.a=Z ⟨L,0,K⟩)(O:dR h0 F (aC name p rg B) U)(N:¬cm B iU F)(V:b<Y iU)(V:cg e 1 F)(w:cg e 2 R)(i:bz e 3 b)(W:bX e 4=dB (Z ⟨L,b*6,K⟩))(q:∀n h' ys,cg n 1 F->cg n 2 R->bz n 3 b->ChZ h0 h' n0 B iU ys->(∀x,x=b\/wP (iU.map YB.g) x->wP (ys.map YB.g) x)->C (.exit 2) n h'):aN FF (.loop qb) e h0 C:=by
 refine aN.loop (awB h0 n0 B iU b F R L) ?_ (n:=zV (iU.map YB.g)) ⟨iU,Q,V,w,i,W,⟨.refl T D,t,.refl _,Q,Q⟩,λ_ _ h=>h⟩;rintro m n h'⟨ys,rfl,n,L,w,W,P,No⟩;have T:=P.T;have V:=T.g;have t:=V.ok;have i:=P.len;have E:=P.E;have l:Y (ys.map YB.g)=Y ys:=yd ..;have j:=E.n50;rw[l] at j;have j:∀ {k:Nat} {y:YB},ys[k]?=Z y->(ys.map YB.g)[k]?=Z y.g:=λh=>by rw[gu,h];rfl
 have⟨z,I⟩:=aR ys b;have d:=cK (j I);have Rb:=T.w.at I;obtain⟨f,g,f,f,f,H,H,H,H,S⟩:=T.w.A.el I;rw[A] at f;cases f;have ZE:=H 2 1 ai;have f:=H 5 1 ai;simp[-ay] at ZE f;have gM:=V.get D O N;have H:=gM;have dq:=T.w.A.len;simp[aC] at H;rw[A,dq] at H;have S:=D.wf _ _ O;have D:=t.bU gM;have D:=V.ax;have uU:∀c,h'.ax<=c->¬cm B ys c:=λc hc h=>aw (T.w.j8 t h)
 have nF1:¬cm B ys F:=λh=>(T.s F h).elim N J;have V:∀D G,cg D 1 F->cg D 2 R->bz D 3 b->az aV h' G->wP (ys.map YB.g) b->C (.exit 2) D G:=λD G N O S o nb=>q D G ys N O S ⟨T.cr o,E,P.S,P.l,i⟩ λx N=>by by_cases e:x=b;rw[e];exact nb;exact No x e (N.resolve_left e)
 unfold qb;by_cases O:z.kind=2
 .have⟨q,S⟩:∃q,z.to=[q]:=by rcases E.kind z.g d with⟨h,_⟩|⟨_,h⟩|⟨h,_⟩;have h':z.kind=1:=h;omega;exact h;have h':z.kind=3:=h;omega
  have i:=E.to z.g d q (by show q∈z.to;rw[S];simp);rw[l] at i;obtain⟨to,rfl⟩:∃u:Nat,q=u:=⟨q.toNat,J⟩;have H':to<Y ys:=J
  have⟨r,q⟩:=aR ys to H';have Rt:=T.w.at q;have l:=Rb.T;rw[S] at l;obtain⟨d,d,d,d,z7,d,d,_,d,_⟩:=l.el (i:=0) (x:=(to:Int)) rfl;have rt0:=d 0 1 ai;simp[-ay] at rt0;have d:=l.len;simp at d;obtain⟨_,_,_,_,l,i,_,_,i,_⟩:=T.w.A.el q;rw[A] at l;cases l;have rd6:=i 0 6 ai;simp[-ay] at rd6;have M':(z.kind==2)=cd:=by simp[O]
  rw[z7,d] at f;have only:∀ {u:Nat} {X l:GB},dv (ys.map YB.g) b u X l->u=to/\l=r.g:=fun {u X l} d=>by
   have h1:=d.hb;rw[j I] at h1;cases h1;have i:z.to=[(u:Int)]:=d.to;rw[S] at i;have G:to=u:=by simp at i;omega
   subst G;have h4:=d.ht;rw[j q] at h4;cases h4;exact⟨Q,Q⟩
  simp[n,w,W,ZE,M',f,rt0,H,aD H,H',rd6,-ay];refine bm.cut (λi=>az aV h' i/\c_ i h'.ax (GZ r)) ?_ ?_;exact⟨(az.refl t).var _ _,h'.clock,by simp[bg,GZ]⟩;rintro i⟨f,s,hX⟩;have oh:=f.get t H;have Ge:=f.get t gM;have fh:=hX;simp[GZ] at fh;have fe:=Rt.P.len;have T2:=T.cr f;by_cases T:to=b
  .have H:((to:Int)==(b:Int))=cd:=by simp[T]
   simp[H];exact V _ _ (av n) (av L) (av w) f λu X l d=>d.ne ((only d).1.trans T)
  have H:((to:Int)==(b:Int))=b9:=by simp;omega
  by_cases D:0<Y r.ps;simp[H,fh,fe,D];exact V _ _ (av n) (av L) (av w) f λu X l d=>by have h1:=d.ph;rw[(only d).2] at h1;simp[YB.g] at h1;rw[h1] at D;simp at D
  have jH:r.ps=[]:=F7 J;simp[H,fh,fe,jH,n,oh];refine bm.call (V:=λv h'=>az aV i h'/\∃d ws,v=c6 (Z ⟨d,0,K⟩) (Y ys) (Y ys)/\jm encI i.ax h' d ws (Edge.dm (cx (ys.map YB.g)))) (by simpa [aC,A,dq] using kS f.ok (name:=name) (p:=p) (r:=rg) T2.w.view E.ends) ?_;rintro _ G⟨o,d,ws,rfl,D⟩;have i:=E.ahead (k:=to) J;have⟨M,Gi⟩:=aR ws to (by rw[D.len];exact(cR.mp i).1);have⟨H,hd⟩:=D.ch;have H:=tR hd Gi;simp[-ay] at H;have hWs:bj encI G M.v (aI (ys.map YB.g) to):=(D.acc to M _ Gi i).sl;have i:M.l=Y (aI (ys.map YB.g) to):=by have⟨a,D,e,_⟩:=id hWs;simp at e;exact e.2.1
  have dZ:=o.get f.ok hX;have yB:=o.get f.ok Ge;by_cases D:1<Y (aI (ys.map YB.g) to)
  .have D:(1:Int)<(Y (aI (ys.map YB.g) to):Int):=J
   simp[H,H',i,D,-ay];exact V _ _ (av n) (av L) (av w) (f.trans o) λu X l d=>by have h1:=d.one;rw[(only d).1] at h1;omega
  have c:dv (ys.map YB.g) b to z.g r.g:=⟨j I,j q,O,S,T,by show r.ps.map (·.1)=[];rw[jH];rfl,J⟩;have D:¬(1:Int)<(Y (aI (ys.map YB.g) to):Int):=J
  simp[H,H',i,D,-ay];have H:=T2.cr o;have i:=CG (j I);have T:=CG (j q);have hl:=P.l;simp[YB.g] at i T;refine Tk o.ok H.w (aw H.g.ax) I q A dZ (by simp only[YB.g] at*;omega) (av W) ag ?_;intro D T T T i W5 S;have lX:h'.ax<G.ax:=o.ok.wf _ _ dZ;have l3:=o.ax;have l2:=f.ax;have nC:=i.get o.ok dZ (uU _ J);have NO:=i.get o.ok yB nF1;have m1:=T.at (t:=1) (aq n);have m2:=T.at (t:=2) (aq L);have m3:=T.at (t:=3) (aq w);have f:=T.at (t:=4) (aq W);have m5:bX D 5=dC ef to:=T.at ag;have m6:cg D 6 h'.ax:=T.at ag;simp;refine Qn i.ok (by have:=H.g.ax;have:=i.ax;omega) I q c E W5 A nC (λh=>(S _ h).elim (uU _ J) J) NO (λh=>(S _ h).elim nF1 J) m1 m3 f m5 m6 ?_;intro A h6 T A g6 W6 s6 x6 q;have D:cM h0 h6 n0 B iU B T:=H.step (i.trans' g6 aj λc hc h=>(S c h).elim id λh=>J) (λc h=>fc h) ⟨W6,λc h=>by have:=i.ax;rcases s6 c h with h|h;exact S c h;exact ft J,x6⟩
  simp;refine⟨zV (T.map YB.g),by rw[q];exact c.less,T,Q,A.at m1,A.at m2,A.at m3,A.at f,⟨D,by rw[q];exact c.eb E,by rw[q];exact .step P.S c,by rw[q,c.lists,hl],?_⟩,λx N h=>by rw[q];exact c.others N (No x N h)⟩;have:=congrArg dk q;simp[ig] at this;omega
 .have M':(z.kind==2)=b9:=by simp[O]
  simp[W,ZE,M',-ay];exact V _ _ (av n) (av L) (av w) (.refl t) λu X l d=>by have h1:=d.hb;rw[j I] at h1;cases h1;exact O d.k2
def aev(name:ByteArray)(p rg:Int)(n0:Nat)(B:SV)(iU:List YB)(h:aB)(v:aa)(h':aB):Prop:=
 v=eU ⟨aC name p rg B⟩/\∃ys,ChZ h h' n0 B iU ys/\∀x,wP (ys.map YB.g) x
def awC(h0:aB)(n0:Nat)(B:SV)(iU:List YB)(F R:Nat)(m:Nat)(e:Env)(h':aB):Prop:=
 ∃(b:Nat) (ys:List YB),m=Y iU-b/\b<=Y iU/\cg e 1 F/\cg e 2 R/\bz e 3 b/\ChZ h0 h' n0 B iU ys/\∀x,x<b->wP (ys.map YB.g) x
def Qo(G:cy h){name:ByteArray}{p rg:Int}{B:SV}(F:n0<=h.ax)(s:FZ h n0 B iU)(y:EB (iU.map YB.g))(S:iH (iU.map YB.g)<1000000):aY FF 136 [eU ⟨aC name p rg B⟩] h (aev name p rg n0 B iU h):=by
 have l:=y.n50;have D:=y.n1;rw[yd] at l D;have O:=s.A.len;have⟨l,i⟩:=aR iU 0 D;have⟨z,_,_,_,t,F,_⟩:=s.A.el i;have f:∀c,h.ax<=c->¬cm B iU c:=λc d h=>aw (s.j8 G h)
 refine aY.of Jd ?_;unfold Ay;have r:¬h.ax=h.ax+1:=J
 simp[aC];refine aN.cut (λh1=>az aV h h1/\(c_ h1 h.ax (aC name p rg B))/\(c_ h1 (h.ax+1) [eT ⟨⟨[]⟩⟩,dC ef 0,dC ef 0,c6 K 0 0])) ?_ ?_;exact⟨((az.refl G).new _ _).new _ _,⟨0,by simp[aC,r]⟩,⟨0,ag⟩⟩;rintro h1⟨o,⟨U,k⟩,⟨a,j⟩⟩;have N:=o.ax;have D:=o.ok.wf _ _ k;have r:=o.ok.wf _ _ j;refine aN.loop (awC h1 n0 B iU h.ax (h.ax+1)) ?_ (n:=Y iU) ⟨0,iU,Q,J,ag,ag,ag,⟨.refl (s.cr G o) o.ok,y,.refl _,Q,Q⟩,λx N=>J⟩;rintro m v h'⟨b,ys,rfl,w,v,e,M,P,F⟩;have T:=P.T;have g:=T.g;have I:=g.ok;have w:=g.get o.ok k (f _ J);have q:=g.get o.ok j (f _ J);have H:=w;have E:=T.w.A.len;have V:=P.len;have L:=g.ax;simp[aC] at H;rw[t,E,V] at H;have E:∀c,h.ax<=c->c<h1.ax->¬cm B ys c:=λc k y L=>(T.s c L).elim (f c k) J;unfold xQ;by_cases l:b<Y iU
 have n:=bZ ((b:Int)+1) J J;simp[v,M,H,l];refine Tl I J T.w P.E (by rw[P.l];exact S) (F:=h.ax) (R:=h.ax+1) (b:=b) t w (E _ J D) J (av v) (av e) (av M) ag ?_;intro i y A W w a C D;simp[a,n];exact⟨Y iU-(b+1),J,b+1,A,Q,l,av W,av w,ag,⟨T.trans C.T,C.E,P.S.trans C.S,C.l.trans P.l,C.len.trans V⟩,λx N=>D x (by rcases Bb x b with h|h;exact ft (F x h);exact fc J)⟩
 .have:b=Y iU:=J
  subst this;have nR:¬h.ax+1=h.ax:=J
  simp[v,e,M,H,q,nR];have w:=(az.refl I).put (S:=λx=>x=h.ax+1) (off:=0) (vs:=[eK name,aL c9 p,aL c9 rg,bo (Z ⟨z,0,K⟩) (Y iU) B.c]) ⟨_,q⟩ (ft Q);generalize put h' _ _ _ _ _=h6 at w⊢;refine⟨by simp[aC,t,O],ys,⟨(((cM.refl s G).cr o).trans T).go w (λc d=>⟨J,by rw[d];exact E _ J r⟩),P.E,P.S,P.l,V⟩,λx=>?_⟩;rcases Bb x (Y iU) with h|h
  exact F x h;intro u X j d;have:=(cR.mp d.hb).1;simp at this;omega
def dp(l a:List Int):List Int:=a.foldl dN l
def eW(l a b:List Int):dp l (a++b)=dp (dp l a) b:=by unfold dp;rw[lv]
def Pj(l:List Int)(r:Int):l <+: dN l r:=by unfold dN;split;exact O6 _;exact KE _ _
def kV:∀(a l:List Int),l <+: dp l a
 |[],l=>O6 _
 |r::a,l=>(Pj l r).trans (kV a (dN l r))
def HN(l:List Int)(r:Int):r∈dN l r:=by unfold dN;split<;>simp[*]
def tc:∀(a l:List Int){r:Int},r∈a->r∈dp l a
 |[],l,_,h=>by simp at h
 |x::a,l,r,h=>by rcases bd.1 h with rfl|h;exact(kV a (dN l r)).subset (HN l r);exact tc a (dN l x) h
def LM{r:Int}(h:l.Nodup):(dN l r).Nodup:=by unfold dN;split;exact h;rename_i o;rw[List.nodup_append];exact⟨h,ag,λa m b d e=>by simp at d;subst d;exact o (e▸m)⟩
def aaF:∀(a:List Int){l:List Int},l.Nodup->(dp l a).Nodup
 |[],_,h=>h
 |r::a,_,h=>aaF a (LM (r:=r) h)
def Ao{l L:List Int}(h:l <+: L)(d:x∈l):aO L x=aO l x:=by
 obtain⟨t,rfl⟩:=h;induction l with
 |nil=>simp at d
 |cons y l m=>
  simp only[zb];unfold aO;by_cases e:y=x;rw[bH e,bH e];rw[bM e,bM e,m ((bd.1 d).resolve_left (a7 e))]
def Mj{r:Int}(h:r∉l):aO (l++[r]) r=Y l:=by
 induction l with
 |nil=>simp[aO]
 |cons y l d=>
  simp only[bd,not_or] at h;rw[zb];unfold aO;rw[bM (a7 h.1),d h.2,bM J,kb];omega
def YP{r x:Int}(h:x∉l)(d:x≠r):aO (l++[r]) x= -1:=pG (by simp[h,d])
structure Lb(h:aB)(N nb aF:Nat)(l:List Int):Prop where
 hN:c_ h N [c6 (Z ⟨nb,0,K⟩) aF aF,dC ef l.length]
 hb:c_ h nb (encI.flat ((aA aF).map λr:Nat=>aO l r))
 ne:N≠nb
 nd:l.Nodup
 lt:∀x∈l,0<=x/\x<aF
def Lb.go{S:Nat->Prop}(w:Lb h N nb aF l)(d:cy h)(g:az S h h')(h1:¬S N)(m:¬S nb):Lb h' N nb aF l:=by have⟨s,a⟩:=w.hN;have⟨o,b⟩:=w.hb;exact⟨⟨s,g.get d a h1⟩,⟨o,g.get d b m⟩,w.ne,w.nd,w.lt⟩
def Lb.low(w:Lb h N nb aF l)(d:cy h):N<h.ax/\nb<h.ax:=by have⟨s,a⟩:=w.hN;have⟨m,b⟩:=w.hb;exact⟨d.wf _ _ a,d.wf _ _ b⟩
def LU(d:l.Nodup)(c:∀x∈l,0<=x/\x<aF):Y l<=aF:=by
 have h1:(l.map u1).Nodup:=gw.2 (d.imp_of_mem fun {a b} ha hb eF e=>eF (by have:=c a ha;have:=c b hb;omega));have:=YS h1 (l₂:=aA aF) (λx m=>by obtain⟨y,d,rfl⟩:=iT.1 m;have:=c y d;exact QM.2 J)
 simpa using this
def XX(N nb aF:Nat)(l:List Int)(r:Int)(h:aB)(v:aa)(h':aB):Prop:=az (Co N nb) h h'/\Lb h' N nb aF (dN l r)/\v=dC ef (aO (dN l r) r)
def ze(z:cy h)(w:Lb h N nb aF l){r:Int}(v:0<=r/\r<aF)(P:aF<1000000):aY FF 194 [dB (Z ⟨N,0,K⟩),dC ef r] h (XX N nb aF l r h):=by
 have⟨⟨s,H⟩,⟨b,M⟩,U,L,t⟩:=id w;obtain⟨r,rfl⟩:∃u:Nat,r=u:=⟨r.toNat,J⟩;have I:r<aF:=J
 have E:((aA aF).map λr:Nat=>aO l r)[r]?=Z (aO l r):=by simp[I]
 have V:=nj M E;refine aY.of FK ?_;unfold xr;by_cases G:(r:Int)∈l
 .have⟨k,f,_,_⟩:=j_ G;rw[f] at V;have d:dN l r=l:=by unfold dN;rw[bH G]
  have p:(0:Int)<=(k:Int):=J
  have p:¬(k:Int)<0:=J
  simp[H,I,V,p,-ay,aD H];exact⟨.refl z,by rw[d];exact w,by rw[d,f]⟩
 .have p:=pG G;rw[p] at V;have d:dN l r=l++[(r:Int)]:=by unfold dN;rw[bM G]
  have b:Y l<aF:=by have:=LU (l:=l++[(r:Int)]) (aF:=aF) (by rw[<-d];exact LM L) (λx E=>by rcases jL.1 E with h|h;exact t x h;simp at h;subst h;exact v);simp at this;omega
  have W:=bZ ((Y l:Int)+1) J J;have n:=z.st _ _ _ _ _ H;have⟨now,o⟩:∃now,now=(aA aF).map λr:Nat=>aO l r:=⟨_,Q⟩;rw[<-o] at M;have i:Y now=aF:=by rw[o];simp
  have T:r<Y now:=J
  have S:¬N=nb:=U;have X:¬nb=N:=a7 U;have y:r+1<=Y now:=J
  have b:(aA aF).map (λr:Nat=>aO (l++[(r:Int)]) r)=(aA aF).map (λr:Nat=>aO (l++[(r:Int)]) r):=Q;have B:now.set r (Y l:Int)=(aA aF).map λx:Nat=>aO (dN l r) x:=by rw[d,o];refine Bc λm=>?_;rw[fq];by_cases e:r=m;subst e;rw[bH Q,bH (ak I),gu,lN I];simp[Mj G];rw[bM e,gu,gu];rcases Bb m aF with h|h;rw[lN h];simp only[zz];congr 1;by_cases C:(m:Int)∈l;exact(Ao (KE _ _) C).symm;rw[pG C,YP C J];rw[xE (ak h)];rfl
  simp[H,M,I,T,y,V,-ay,aD H,aK];have F:=tA now r (Y l:Int) T;have b:=aX (off:=r) (vs:=[aL ef (Y l:Int)]) (bk z).ok (b:=nb) (ak M);have y:(put (tick h) nb r (encI.flat now) [aL ef (Y l:Int)] 0).tr.get nb=Z (.ch (encI.flat (now.set r (Y l:Int))) b9 0 (h.clock+1)):=by rw[bc,F];rfl
  have f:=b.get (bk z).ok (b:=N) (ak H) U;have H:=(bk z).cr.trans b;generalize put (tick h) nb r (encI.flat now) [aL ef (Y l:Int)] 0=h1 at*;simp[f,W];have i:=aX (off:=1) (vs:=[aL ef ((Y l:Int)+1)]) b.ok f;have D:(put h1 N 1 [bo (Z ⟨nb,0,K⟩) aF aF,aL ef l.length] [aL ef ((Y l:Int)+1)] 0).tr.get N=Z (.ch [c6 (Z ⟨nb,0,K⟩) aF aF,dC ef ((Y l:Int)+1)] b9 0 h1.clock):=by rw[bc];rfl
  have j:=i.get b.ok y X;generalize put h1 N 1 _ _ 0=h2 at*;have q:=nj j (k:=r) (x:=(Y l:Int)) (by rw[fq,bH Q,bH T]);simp[D,I,q,-ay,aD D];refine⟨(H.cX (λx _ e=>ft e)).trans (i.cX (λx _ e=>fc e)),⟨⟨h1.clock,?_⟩,(by rw[<-B];exact⟨_,j⟩),U,LM L,λx E=>?_⟩,?_⟩
  rw[D,d];simp;rw[d] at E;rcases jL.1 E with h|h;exact t x h;simp at h;subst h;exact v;rw[d,Mj G]
def mh(v:Bool×Int):List Int:=if v.1 then [v.2] else []
def ags(l:List Int)(r:Int):dp l [r]=dN l r:=Q
def Ss(N nb aF:Nat)(l:List Int)(u:Bool×Int)(h:aB)(v:aa)(h':aB):Prop:=az (Co N nb) h h'/\Lb h' N nb aF (dp l (mh u))/\v=eU ⟨[dd (bq (dp l (mh u)) u).1,dC ef (bq (dp l (mh u)) u).2]⟩
def uT(G:cy h)(w:Lb h N nb aF l){u:Bool×Int}(c:∀r∈mh u,0<=r/\r<aF)(b:aF<1000000):aY FF 195 [dB (Z ⟨N,0,K⟩),eU ⟨[dd u.1,dC ef u.2]⟩] h (Ss N nb aF l u h):=by
 have⟨E,r⟩:=u;obtain⟨a,a⟩:=w.low G;refine aY.of Hm ?_;unfold yM;have a:¬h.ax=h.ax+1:=J
 have I:¬h.ax+1=h.ax:=J
 simp;refine aN.cut (λh1=>az aV h h1/\(c_ h1 h.ax [dd E,dC ef r])/\(c_ h1 (h.ax+1) [dd b9,dC ef 0])) ?_ ?_;exact⟨((az.refl G).new _ _).new _ _,⟨0,av a⟩,⟨0,ag⟩⟩;rintro h1⟨d,⟨D,m⟩,⟨D,D⟩⟩;have H:=w.go G d (λh=>h) (λh=>h);cases E
 simp[m,D];exact⟨d.cr.put ⟨_,D⟩ (fc J),H.go d.ok (aX d.ok D) J J,Q⟩;simp[m];refine bm.call (V:=XX N nb aF l r h1) (ak (ze d.ok H (c r (by simp[mh])) b)) ?_;rintro _ E⟨o,b,rfl⟩;have s:=o.get d.ok m (λe=>by rcases e with e|e<;>omega);have M:=o.get d.ok D (λe=>by rcases e with e|e<;>omega);have C:=aX (off:=1) (vs:=[aL ef (aO (dN l r) r)]) o.ok s;have D:(put E h.ax 1 [eX cd,aL ef r] [aL ef (aO (dN l r) r)] 0).tr.get h.ax=Z (.ch [dd cd,dC ef (aO (dN l r) r)] b9 0 E.clock):=by rw[bc];rfl
 have D:=C.get o.ok M I;simp[s,M,a,I];generalize put E h.ax 1 _ _ 0=h3 at*;have U:=b.go o.ok C J J;have E:=aX (off:=0) (vs:=[eX cd,aL ef (aO (dN l r) r)]) C.ok D;exact⟨((d.cr.trans o).trans' C aj (λy d e=>J)).trans' E aj (λy d e=>J),U.go C.ok E J J,Q⟩
def qk(row:List (Bool×Int)):List Int:=row.flatMap mh
def Cw(x:GI):List Int:=mh x.a++(mh x.b++(qk x.args++if 0<=x.dst then [x.dst] else []))
def QD(b:GB):List Int:=b.aP.map (·.dst)++(b.list.flatMap Cw++mh b.on)
structure NZ(h:aB)(n0:Nat)(B:SV)(ys:List YB)(N nb aF:Nat)(l:List Int):Prop where
 W:FZ h n0 B ys
 w:Lb h N nb aF l
 nN:¬cm B ys N
 nb:¬cm B ys nb
 PB:aF<1000000
section
variable{n0:Nat}{B:SV}{ys:List YB}{N nb aF:Nat}{l b:List Int}
def NZ.step{h d:aB}(k:NZ h n0 B ys N nb aF l)(m:cy h)(C:az (Co N nb) h d)(s:Lb d N nb aF b):NZ d n0 B ys N nb aF b:=
 ⟨k.W.go m C (λc o u e=>by rcases u with h|h;exact k.nN ⟨o,h▸e⟩;exact k.nb ⟨o,h▸e⟩),s,k.nN,k.nb,k.PB⟩
def NZ.cr{h m:aB}(k:NZ h n0 B ys N nb aF l)(d:cy h)(o:az aV h m):NZ m n0 B ys N nb aF l:=
 ⟨k.W.cr d o,k.w.go d o (λh=>h) (λh=>h),k.nN,k.nb,k.PB⟩
def NZ.lt(k:NZ h n0 B ys N nb aF l)(d:cy h):N<h.ax/\nb<h.ax:=k.w.low d
def ve(aF:Nat)(a:List Int):Prop:=∀r∈a,0<=r/\r<aF
def ve.fst{a b:List Int}(h:ve aF (a++b)):ve aF a:=λr d=>h r (ba _ d)
def ve.snd{a b:List Int}(h:ve aF (a++b)):ve aF b:=λr d=>h r (aT _ d)
def ve.at{f:G->List Int}{w:List G}(h:ve aF (w.flatMap f)){x:G}(d:x∈w):ve aF (f x):=λr m=>h r (List.mem_flatMap.2 ⟨x,d,m⟩)
def ke{f:G->List Int}{w:List G}{x:G}(h:w[j]?=Z x)(l:List Int):dp l ((w.take (j+1)).flatMap f)=dp (dp l ((w.take j).flatMap f)) (f x):=by rw[mw,h,List.flatMap_append,eW];simp
def NaZ(h:aB)(n0:Nat)(B:SV)(ys:List YB)(N nb aF:Nat)(l:List Int)(row:List (Bool×Int))(e:Env)(m:Nat)(a:Env)(h':aB):Prop:=
 ∃j:Nat,m=Y row-j/\j<=Y row/\aH NaL e a/\bz a 79 j/\az (Co N nb) h h'/\NZ h' n0 B ys N nb aF (dp l (qk (row.take j)))
def agF(A:cy h)(k:NZ h n0 B ys N nb aF l){i L:Nat}(V:ys[i]?=Z y){q:GI×SV}(T:y.ls[L]?=Z q)(z:Y q.1.args<=1048576)(P:ve aF (qk q.1.args))(S:cg e 3 N)(D:bX e 77=q.2.v)(I:bz e 78 (Y q.1.args))(H:bz e 79 0)(L:∀a h',aH NaL e a->az (Co N nb) h h'->NZ h' n0 B ys N nb aF (dp l (qk q.1.args))->C (.exit 8) a h'):aN FF (.loop rG) e h C:=by
 refine aN.loop (NaZ h n0 B ys N nb aF l q.1.args e) ?_ (n:=Y q.1.args) ⟨0,Q,J,aH.refl _ _,H,.refl A,k⟩;rintro m a h'⟨j,rfl,d,z,u,A,E⟩;have H:=A.ok;have a:=z.at S;have d:=z.at D;have D:=z.at I;unfold rG;by_cases M:j<Y q.1.args
 .have S:=bZ ((j:Int)+1) J J;have⟨v,U⟩:=aR q.1.args j M;obtain⟨b,g,o,s,X,F,f,_,F,_⟩:=((E.W.at V).ls q (cK T)).el U;have n:=F 0 2 ai;have p:=((E.W.at V).ls q (cK T)).len;simp[-ay] at n;simp at d;rw[X,p] at d;simp[a,d,D,u,M,n,-ay,aJ];have G:az aV h' (put (aM h' [dd b9,dC ef 0] 0) h'.ax 0 [dd b9,dC ef 0] [dd v.1,dC ef v.2] 0):=(az.refl H).var _ _;generalize put (aM h' [dd b9,dC ef 0] 0) h'.ax 0 _ _ 0=h2 at*;have V:=E.cr H G;refine bm.call (V:=Ss N nb aF _ v h2) (ak (uT G.ok V.w (P.at (cK U)) k.PB)) ?_;rintro _ x⟨W,p,rfl⟩;simp[u,S];refine⟨Y q.1.args-(j+1),J,j+1,Q,M,?_,ag,A.trans (G.cr.trans W),V.step G.ok W (by unfold qk at p⊢;rw[ke U];exact p)⟩
  exact au
 .have:j=Y q.1.args:=J
  subst this;rw[mI] at E;simp[D,u];exact L _ _ (aH.set z) A E
def NpZ(h:aB)(n0:Nat)(B:SV)(ys:List YB)(N nb aF:Nat)(l:List Int)(a:List (GP×SV))(e:Env)(m:Nat)(b:Env)(h':aB):Prop:=
 ∃j:Nat,m=Y a-j/\j<=Y a/\aH NpL e b/\bz b 52 j/\az (Co N nb) h h'/\NZ h' n0 B ys N nb aF (dp l ((a.take j).flatMap λq=>[q.1.dst]))
def agH(A:cy h)(k:NZ h n0 B ys N nb aF l)(V:ys[i]?=Z y)(z:Y y.ps<=1048576)(v:ve aF (y.ps.flatMap λq=>[q.1.dst]))(S:cg e 3 N)(f:bX e 50=y.P.v)(U:bz e 51 (Y y.ps))(H:bz e 52 0)(L:∀M h',aH NpL e M->az (Co N nb) h h'->NZ h' n0 B ys N nb aF (dp l (y.ps.flatMap λq=>[q.1.dst]))->C (.exit 4) M h'):aN FF (.loop rI) e h C:=by
 refine aN.loop (NpZ h n0 B ys N nb aF l y.ps e) ?_ (n:=Y y.ps) ⟨0,Q,J,aH.refl _ _,H,.refl A,k⟩;rintro m M h'⟨j,rfl,d,z,u,A,G⟩;have p:=A.ok;have a:=z.at S;have d:=z.at f;have D:=z.at U;unfold rI;by_cases T:j<Y y.ps
 .have S:=bZ ((j:Int)+1) J J;have⟨q,I⟩:=aR y.ps j T;have R:=G.W.at V;obtain⟨b,g,o,s,W,F,_,_,F,_⟩:=R.P.el I;have n:=F 0 2 ai;simp[-ay] at n;have X:=R.P.len;simp at d;rw[W,X] at d;simp[a,d,D,u,T,n,-ay,aJ];have E:az aV h' (put (aM h' [dC ef 0,c6 K 0 0] 0) h'.ax 0 [dC ef 0,c6 K 0 0] [dC ef q.1.dst,c6 q.2.a q.2.l q.2.c] 0):=(az.refl p).var _ _;generalize put (aM h' [dC ef 0,c6 K 0 0] 0) h'.ax 0 _ _ 0=h2 at*;have V:=G.cr p E;refine bm.call (V:=XX N nb aF _ q.1.dst h2) (ak (ze E.ok V.w (v.at (cK I) q.1.dst ag) k.PB)) ?_;rintro _ x⟨H,x,rfl⟩;simp[u,S];refine⟨Y y.ps-(j+1),J,j+1,Q,T,?_,ag,A.trans (E.cr.trans H),V.step E.ok H (by rw[ke I];exact x)⟩
  exact au
 .have:j=Y y.ps:=J
  subst this;rw[mI] at G;simp[D,u];exact L _ _ (aH.set z) A G
def NlZ(h:aB)(n0:Nat)(B:SV)(ys:List YB)(N nb aF:Nat)(l:List Int)(d:List (GI×SV))(e:Env)(m:Nat)(a:Env)(h':aB):Prop:=
 ∃j:Nat,m=Y d-j/\j<=Y d/\aH NlL e a/\bz a 64 j/\az (Co N nb) h h'/\NZ h' n0 B ys N nb aF (dp l ((d.take j).flatMap λq=>Cw q.1))
def agG(S:cy h)(k:NZ h n0 B ys N nb aF l)(V:ys[i]?=Z y)(z:Y y.ls<=1048576)(t:∀q∈y.ls,Y q.1.args<=1048576)(L:ve aF (y.ls.flatMap λq=>Cw q.1))(n:cg e 3 N)(r:bX e 62=y.L.v)(D:bz e 63 (Y y.ls))(I:bz e 64 0)(C':∀X h',aH NlL e X->az (Co N nb) h h'->NZ h' n0 B ys N nb aF (dp l (y.ls.flatMap λq=>Cw q.1))->C (.exit 6) X h'):aN FF (.loop rH) e h C:=by
 refine aN.loop (NlZ h n0 B ys N nb aF l y.ls e) ?_ (n:=Y y.ls) ⟨0,Q,J,aH.refl _ _,I,.refl S,k⟩;rintro m X h'⟨j,rfl,v,f,d,T,I⟩;have v:=T.ok;have a:=f.at n;have W:=f.at r;have G:=f.at D;unfold rH;by_cases p:j<Y y.ls
 .have c:=bZ ((j:Int)+1) J J;have⟨q,S⟩:=aR y.ls j p;have⟨x,A⟩:=q;have O:=cK S;have R:=I.W.at V;obtain⟨b,g,o,w,n,F,_,_,F,_⟩:=R.L.el S;have z:=F 0 8 ai;simp[-ay] at z;have w:=R.L.len;have P:=(R.ls _ O).len;have X:=L.at O;simp at W;rw[n,w] at W;simp[a,W,G,d,p,z,-ay,aJ];refine bm.cut (λU=>az aV h' U/\c_ U h'.ax [dC ef x.op,dC ef x.dst,dd x.a.1,dC ef x.a.2,dd x.b.1,dC ef x.b.2,dC ef x.fn,c6 A.a A.l A.c]) ?_ ?_
  exact⟨(az.refl v).var _ _,h'.clock,by simp[bg]⟩;rintro U⟨H,s,w⟩;have E:=I.cr v H;have⟨n,r⟩:=I.lt v;have v:¬Co N nb h'.ax:=λe=>by rcases e with e|e<;>omega
  refine bm.call (V:=Ss N nb aF _ x.a U) (ak (uT H.ok E.w X.fst k.PB)) ?_;rintro _ z⟨D,L,rfl⟩;have n:=E.step H.ok D L;have F:=D.get H.ok w v;simp[a,F];refine bm.call (V:=Ss N nb aF _ x.b z) (ak (uT D.ok n.w X.snd.fst k.PB)) ?_;rintro _ E⟨z,r,rfl⟩;have E:=n.step D.ok z r;have W:=z.get D.ok F v;simp at P;simp[W];refine agF z.ok E V S (t _ O) X.snd.snd.fst (av a) ag (av P) ag ?_;intro F P r L n;have V:=L.get z.ok W v;have O:=r.at (t:=3) (aq a);have M:cg F 10 h'.ax:=r.at ag;have a:=r.at (t:=64) (aq d);have w:=T.trans (H.cr.trans (D.trans (z.trans L)));have W:aH NlL e F:=by
   refine aH.trans ?_ (r.cX)
   exact au
  have u:=ke (f:=λq:GI×SV=>Cw q.1) S l;unfold Cw at u;rw[eW,eW,eW] at u;by_cases E:0<=x.dst
  .rw[bH E] at u;have W:=X.snd.snd.snd x.dst (by rw[bH E];simp);simp[O,M,V,E];refine bm.call (V:=XX N nb aF _ x.dst P) (ak (ze L.ok n.w W k.PB)) ?_;rintro _ F⟨t,r,rfl⟩;simp[a,c];refine⟨Y y.ls-(j+1),J,j+1,Q,p,?_,ag,w.trans t,n.step L.ok t (by unfold Cw;rw[u];exact r)⟩
   exact au
  .rw[bM E] at u;simp[O,M,V,E,a,c];refine⟨Y y.ls-(j+1),J,j+1,Q,p,?_,ag,w,by unfold Cw;rw[u];exact n⟩
   exact au
 .have:j=Y y.ls:=J
  subst this;rw[mI] at I;simp[G,d];exact C' _ _ (aH.set f) T I
end
end Go.Proofs.YtdhnndleffachaaGreatDoor
