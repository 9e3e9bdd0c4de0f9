/- Parts of the proof. -/
import Derived.Test.YtdhnndleffachaaGreatDoorP04
open Go renaming Value->aa,stepG->cG
open Int renaming toNat->qA
open Nat renaming beq->an,le_add_right->pe,sub_self->rf
open Ne renaming symm->cE
open Option.some renaming inj->gD
open Option renaming some->Z,none->K
open Bool renaming false->cd,true->ck
open List renaming length->cz,cons_append->Jb,drop_append->gB,drop_length->bE,drop_zero->lV,filterMap_cons->B5,filter_append->dQ,filter_cons_of_neg->da,filter_cons_of_pos->fb,filter_eq_nil_iff->oW,flatMap_append->B4,foldl_append->eE,getElem?_mapIdx->dk,getElem?_range->fj,getElem_inj->eX,length->bW,length_drop->uc,length_filterMap_le->xx,length_filter_lt_length_iff_exists->pv,length_set->ly,map_append->aL,map_congr_left->cc,map_set->cL,mem_append_left->aW,mem_append_right->af,mem_cons->bn,mem_filterMap->ru,mem_flatMap->ba,mem_of_find?_eq_some->e0,of_mem_zip->bV,pairwise_cons->Dn,pairwise_iff_getElem->kn,pairwise_map->ic,prefix_append->Dm,prefix_refl->sM,range->aU,range_succ->K3,replicate->ae,take_append->ns
open Go.Value renaming slice->dB,bool->dC,pointer->eU,int->fc,string->gX,agg->ix,bool->br,int->aA,slice->bf,string->cW
open Go.IntKind renaming i64->ft,i64->ec
open Or renaming inl->jZ,inr->kd
set_option linter.all false
set_option maxHeartbeats 1000000
namespace Go.Proofs.YtdhnndleffachaaGreatDoor
open Go.AI
variable{A L0 O m:SV}{F N R X P aF c d8 dA i j V k n n0 n8 nb o M D C:Nat}{z:bH->Env->az->Prop}{a cg now p rg x:Int}{ah:List (List Int)}{ats l I pk to:List Int}{bs:List GB}{g row vs:List (Bool×Int)}{e:Env}{f u:Int->Int}{h h' h1 E:az}{ji ys:List YB}{name:ByteArray}{q:GP×SV}{L s y:YB}{v:Bool×Int}{v1 v2:aa}{ws:List SV}{U:List aa}{W:List (Int×(Bool×Int))}{H:Type}
def ku(p:Nat):List Int:=(aU p).map λx:Nat=>(x:Int)
def NM(p:Nat):ku (p+1)=ku p++[(p:Int)]:=by unfold ku;rw[K3];simp
def azj(h1:az)(S p:Nat)(m:Nat)(a:Env)(h':az):Prop:=
 ∃(j:Nat) (L:SV),m=p-j/\j<=p/\bU a 1 S/\bY a 3=L.v/\bC a 4 j/\ay aR h1 h'/\bm encI h1.aw h' L.v (ku j)
def ah7(M:cu h1){B:SV}{p:Nat}{r:Int}(S:p<1000){S D:Nat}(a:eR h1 S (aC name p r B) D)(U:bU e 1 S)(r:bY e 3=cM.v)(B:bC e 4 0)(C:∀u h' (L:SV),bU u 1 S->bY u 3=L.v->ay aR h1 h'->bm encI h1.aw h' L.v (ku p)->z (.exit 0) u h'):aK FF (.loop oq) e h1 z:=by
 refine aK.loop (azj h1 S p) ?_ (n:=p) ⟨0,cM,Q,ab,U,r,B,.refl M,jZ ⟨Q,Q⟩⟩;rintro m u h'⟨j,L,rfl,S,o,I,G,g,d⟩;have b:=g.ok;have S:=g.get M a;simp[aC] at S;unfold oq;by_cases a:j<p
 .have B:=ch ((j:Int)+1) ab ab;simp[o,I,G,S,a];have w:=aO b [fc ft j] 0;have W:=d.grow b w ai;have V:bp encI (aJ h' [fc ft j] 0) (dB (Z ⟨h'.aw,0,K⟩) 1 1) [(j:Int)]:=dq (E:=encI) (x:=(j:Int)) (bX _ _ _);have b:(aJ h' [fc ft j] 0).aw=h'.aw+1:=Q;have b:=g.aw;have b:cz (ku j)=j:=by simp[ku]
  obtain⟨b,b,r,H,f,_⟩:=fg (bytes:=8) w.ok (z:=[fc ft 0]) rfl W V ab ag ab;obtain⟨b,rfl⟩:=bm.E5 H;refine dh (aj r) ?_;simp[G,B];exact⟨p-(j+1),ab,j+1,b,Q,a,au o,J,J,(g.trans w).trans' f ai (λc f e=>av (d.of e)),by rw[NM];exact H⟩
 .have:j=p:=ab
  subst this;simp[o,G,S];exact C _ _ L (au o) (au I) g d
def Qm:∀ {W:List (Int×(Bool×Int))} {n:Int},W.Pairwise (λa b=>a.1<b.1)->W.filter (λx=>decide (x.1<n+1))=W.filter (λx=>decide (x.1<n))++W.filter (λx=>x.1==n)
 |[],_,_=>rfl
 |x::W,n,h=>by
  have⟨h1,m⟩:=Dn.1 h;have d:=Qm (n:=n) m;rcases Int.lt_trichotomy x.1 n with e|e|e
  rw[fb (by simp;omega),fb (by simp;omega),da (by simp;omega),d];rfl
  .have no:W.filter (λx=>decide (x.1<n))=[]:=by rw[oW];intro y o;have:=h1 y o;simp;omega
   rw[fb (by simp;omega),da (by simp;omega),fb (by simp;omega),d,no];rfl
  rw[da (by simp;omega),da (by simp;omega),da (by simp;omega),d]
def Vt:∀ {W:List (Int×(Bool×Int))} {n:Int},W.Pairwise (λa b=>a.1<b.1)->(∀x∈W,x.1≠n)/\W.filter (λx=>x.1==n)=[]\/∃x∈W,x.1=n/\W.filter (λx=>x.1==n)=[x]
 |[],_,_=>jZ ⟨λx h=>by simp at h,Q⟩
 |x::W,n,h=>by
  have⟨h1,m⟩:=Dn.1 h;by_cases e:x.1=n;refine kd ⟨x,iY ..,e,?_⟩;rw[fb (aj e)];congr 1;rw[oW];intro y o;have:=h1 y o;simp;omega
  rcases Vt (n:=n) m with⟨a,b⟩|⟨y,a,b,c⟩;refine jZ ⟨λz d=>?_,by rw[da (aj e),b]⟩;rcases bn.1 d with rfl|d;exact e;exact a z d;exact kd ⟨y,xV _ a,b,by rw[da (aj e),c]⟩
def Bm{l W:List (Int×(Bool×Int))}(P:W.Perm l)(h:W.Pairwise (λa b=>a.1<b.1))(d:∀x∈l,0<=x.1):∀n:Nat,iP l n=(W.filter (λx=>decide (x.1<(n:Int)))).map (·.2)
 |0=>by
  have:W.filter (λx=>decide (x.1<((0:Nat):Int)))=[]:=by rw[oW];intro y m;have:=d y (P.subset m);simp;omega
  rw[this];rfl
 |n+1=>by
  have e:((n+1:Nat):Int)=(n:Int)+1:=ab
  rw[N7,Bm P h d n,e,Qm h,aL];congr 1;rcases Vt (n:=(n:Int)) h with⟨a,b⟩|⟨x,a,b,c⟩;rw[b,Vx λi x w=>a x (P.symm.subset (cO w))];rfl
  .rw[c];have u:∀y∈l,y.1=(n:Int)->y=x:=λy m e=>by have:y∈W.filter (λx=>x.1==(n:Int)):=EL.2 ⟨P.symm.subset m,aj e⟩;rw[c] at this;simpa using this
   have d:fE l n=Z x.2:=by
    unfold fE;cases d:l.find? λx=>x.1==(n:Int) with
    |none=>have:=List.find?_eq_none.1 d x (P.subset a);simp at this;omega
    |some y=>
     have h1:=e0 d;have o:=List.find?_some d;rw[u y h1 (aj o)];rfl
   rw[d];rfl
def afc{l W:List (Int×(Bool×Int))}(S:af_ l W)(a:∀x∈l,0<=x.1/\x.1<n):W.map (·.2)=iP l n:=by
 rw[Bm S.1 S.2 (λx d=>(a x d).1) n];congr 1
 symm
 rw[List.filter_eq_self];intro x d;have:=a x (S.1.subset d);simpa using this.2
inductive Lc where
 |B
 |P (i:Nat)
 |L (i:Nat)
 |T (i:Nat)
 |R (i j:Nat)
 |X (i j:Nat)
def Lc.mv(i:Nat):Lc->Lc
 |.B=>.B
 |.P _=>.P i
 |.L _=>.L i
 |.T _=>.T i
 |.R _ j=>.R i j
 |.X _ j=>.X i j
def eM.awJ(w:eM cZ h A vs):ad vR 2 h A.v vs:=w.view rfl (λi x y a b=>by rw[a] at b;cases b;rfl)
def eO{E:e7 H}{L:SV}{W:List H}(a:bm E n0 h L.v W):eM E h L W:=by rcases a with⟨rfl,e⟩|⟨b,s,e,d,m,o⟩;simp at e;exact⟨e.2.1,jZ ⟨e.1,e.2.2,Q⟩⟩;simp at e;exact⟨e.2.1,kd ⟨b,E.sz,s,[],e.1,by simp[e.2.2],aj d,kd Q⟩⟩
def GQ{E:e7 H}{L:SV}{W:List H}(a:wo E n0 h L.v W):eM E h L W:=by rcases a with a|⟨rfl,b,s,e,d,m⟩;exact eO a;simp at e;exact⟨e.2.1,kd ⟨b,0,s,[],e.1,by simp[e.2.2],aj d,jZ Q⟩⟩
def wo.sv{E:e7 H}{v:aa}{W:List H}(a:wo E n0 h v W):∃L:SV,v=L.v:=by rcases a with a|⟨_,b,s,e,_,_⟩;exact bm.E5 a;exact⟨⟨Z ⟨b,0,K⟩,0,0⟩,e⟩
def wo.of{H:Type}{E:e7 H}{n0:Nat}{h:az}{v:aa}{W:List H}(a:wo E n0 h v W){c:Nat}(o:bx v c):n0<=c:=by rcases a with a|⟨_,b,s,rfl,_,d⟩;exact bm.of a o;have⟨_,_,_,e⟩:=o;cases e;exact d
def ID{E:e7 H}(m:cu h){bytes:Nat}{z:List aa}{w:aa}{W:List H}(D:cz z=E.sz)(o:bp E h w W)(C:cz W<1000000)(u:bytes<=1000):∃(L:SV) (h':az),js (aJ h [] 0) z bytes cd (dB (Z ⟨h.aw,0,K⟩) 0 0) w=Z (L.v,h')/\wo E h.aw h' L.v W/\ay aR h h':=by
 have d:=aO m [] 0;have⟨v,h',e,a,_,g⟩:=vA (bytes:=bytes) d.ok D (UT (fq _)) (o.cm m d) (aj C) u d.aw;obtain⟨L,rfl⟩:=wo.sv a;exact⟨L,h',e,aj a,d.trans' g ai (λx G e=>by have⟨_,_,_,e⟩:=e;cases e;omega)⟩
def fS(f:Int->Int)(l:List (Int×(Bool×Int))):List (Int×(Bool×Int)):=l.filterMap λe=>if 0<=f e.1 then Z (f e.1,e.2) else K
def Nf{l:List (Int×(Bool×Int))}{x:Int×(Bool×Int)}(h:l[j]?=Z x):fS f (l.take (j+1))=fS f (l.take j)++(if 0<=f x.1 then [(f x.1,x.2)] else []):=by unfold fS;rw[kh,h,List.filterMap_append];congr 1;by_cases e:0<=f x.1<;>simp[e]
def KrL:List Nat:=[15,16,17,18,64,65,66,67,68,69,70,71,72,73,74,75,76,77,78,79,80,81,82,83,84,85,86,87]
def ay7(h:az)(ats:List Int)(a:List (Int×(Bool×Int)))(e:Env)(m:Nat)(b:Env)(h':az):Prop:=
 ∃(j:Nat) (L:SV),m=cz a-j/\j<=cz a/\aG KrL e b/\bC b 64 j/\bY b 15=L.v/\ay aR h h'/\bm iF h.aw h' L.v (fS (mV ats) (a.take j))
def adU(T:cu h){n dA d8 c8 k o O c:Nat}{b:List Int}(r:n<=1000)(y:eR h dA (encI.flat ats) o)(F:cz ats=n)(S:h.tr.get d8=Z (.bZ (zV.flat ws) cd c O))(hws:ws[k]?=Z m)(Yc:k<n)(B:ad nR 1 h m.v b)(O:∀p∈b,0<=p/\p<n)(N:ad vR 2 h A.v row)(d:cz row=cz b)(P:cz b<1000000)(f:bY e 5=dB (Z ⟨dA,0,K⟩) n n)(l:bY e 8=dB (Z ⟨d8,0,K⟩) n c8)(F:bC e 11 k)(i:bY e 15=cM.v)(r:bY e 62=A.v)(w:bC e 63 (cz row))(G:bC e 64 0)(C:∀X h' L,ay aR h h'->aG KrL e X->bY X 15=SV.v L->bm iF h.aw h' (SV.v L) (fS (mV ats) (b.zip row))->z (.exit 6) X h'):aK FF (.loop pw) e h z:=by
 have jq:=ad.len N;have UI:=ad.len B;have vS:cz (b.zip row)=cz row:=by simp;omega
 refine aK.loop (ay7 h ats (b.zip row) e) ?_ (n:=cz (b.zip row)) ⟨0,cM,Q,ab,aG.refl _ _,G,i,.refl T,jZ ⟨Q,Q⟩⟩;rintro t X h'⟨j,L,rfl,d,P,d,q,g,t⟩;have q5:=P.at f;have q8:=P.at l;have EU:=P.at F;have D:=P.at r;have E:=P.at w;unfold pw;by_cases X:j<cz row
 .have wj:=ch ((j:Int)+1) ab ab;have⟨v,l⟩:=aQ row j X;have⟨a,r⟩:=aQ b j;have⟨f,F⟩:=O a (cO r);obtain⟨u,rfl⟩:∃u:Nat,a=u:=⟨a.toNat,ab⟩;have OM:u<n:=ab
  obtain⟨G,F,F,BN,_,_,rfl,O,G⟩:=ad.later T N l;obtain⟨N,N,F,hwa,_,_,rfl,w,i⟩:=ad.later T B r;have N:=G h' g 0 2 ag;have f:=i h' g 0 1 ag;have G:=g.get T y;have F:=g.get T S;have⟨S,B⟩:=aQ ats u;have s:=ov G B;have T:=Gn F hws;have W:j<cz b:=ab
  have M:=g.cg O;have H:=g.cg w;have y:=g.ok.cg G;have c:=g.ok.cg F;simp[-ax] at N f T;rw[hwa,UI] at T;simp at D q;rw[BN,jq] at D;have G:=Nf (f:=mV ats) (l:=b.zip row) (x:=((u:Int),v)) (by rw[List.getElem?_zip_eq_some];exact⟨r,l⟩);have w:mV ats (u:Int)=S:=by simp[mV,B]
  dsimp only at G;rw[w] at G;by_cases w:0<=S
  .rw[bK w] at G;simp[q5,q8,EU,q,D,E,d,X,N,f,T,s,Yc,OM,W,w,-ax,aH,cn,bj,M,H,y,c];have F:ay aR h' (put (aJ h' [dC cd,fc ft 0] 0) h'.aw 0 [dC cd,fc ft 0] [dC v.1,fc ft v.2] 0):=(ay.refl g.ok).var _ _;have⟨U,r⟩:∃U,U=put (aJ h' [dC cd,fc ft 0] 0) h'.aw 0 [dC cd,fc ft 0] [dC v.1,fc ft v.2] 0:=⟨_,Q⟩;have ZF:U.aw=h'.aw+1:=by rw[r];rfl
   rw[<-r] at F⊢;have i:=g.trans F;have O:=aO i.ok (iF.enc (S,v)) 0;have r:=(t.grow g.ok F ai).grow i.ok O ai;have hw3:bp iF (aJ U (iF.enc (S,v)) 0) (dB (Z ⟨U.aw,0,K⟩) 1 1) [(S,v)]:=dq (bX _ _ _);have F:cz (fS (mV ats) ((b.zip row).take j))<=j:=qN (xx _ _) (by simp;omega);have S:=i.aw;obtain⟨B,S,I,B,F,S⟩:=fg (bytes:=24) O.ok (z:=[fc ft 0,dC cd,fc ft 0]) rfl r hw3 ab ag (by simp;omega);rw[ZF] at I;refine dh (aj I) ?_;obtain⟨V,rfl⟩:=bm.E5 B;simp[d,wj];refine⟨cz (b.zip row)-(j+1),ab,j+1,V,Q,ab,?_,J,J,(i.trans O).trans' F ai (λx l e=>av (t.of e)),by rw[G];exact B⟩
   exact aq
  .rw[bM w,Bx] at G;simp[q5,q8,EU,q,D,E,d,X,N,f,T,s,Yc,OM,W,w,wj,-ax,aH,cn,bj,M,H,y,c];refine⟨cz (b.zip row)-(j+1),ab,j+1,L,Q,ab,?_,J,au q,g.trans ((ay.refl g.ok).var _ _),by rw[G];exact t.grow g.ok ((ay.refl g.ok).var _ _) ai⟩
   exact aq
 .have:j=cz (b.zip row):=ab
  subst this;rw[mO] at t;simp only[vS] at d;simp[E,d];exact C _ _ L g (P.set) (au q) t
def LG{E:e7 H}{L:SV}{W:List H}(a:bm E n0 h L.v W)(e:dt L=Z c):n0<=c:=by rcases a with⟨_,d⟩|⟨b,s,d,o,_,m⟩;simp at d;simp[dt,d] at e;simp at d;rw[cD d.1] at e;cases e;exact m
def KvL:List Nat:=[20,97,98,99,100,101,102,103,104,105,106,107,108,109,110,111,112,113,114,115,116]
def Ir(y:YB):List aa:=[y.P.v,y.L.v,fc ft y.kind,dC y.on.1,fc ft y.on.2,y.T.v]
def gW(y:YB)(i:Nat)(d:Int)(F:SV)(row:List (Bool×Int)):YB:= {y with ps:=y.ps.set i (⟨d,row⟩,F)}
def ay6(h:az)(n0:Nat)(B:SV)(ys:List YB)(y:YB)(k i X C:Nat)(a:Int)(vs:List (Bool×Int))(e:Env)(m:Nat)(b:Env)(h':az):Prop:=
 ∃(j:Nat) (F:SV),m=cz vs-j/\j<=cz vs/\aG KvL e b/\bC b 97 j/\bm cZ h.aw h' F.v (vs.take j)/\cV h h' n0 B (ys.set k (gW y i a cM [])) B (ys.set k (gW y i a F (vs.take j)))
def Z4(M:cu h)(vo:n0<=h.aw){B:SV}{k i X C d b:Nat}{a:Int}(G:y.ps[i]?=Z q)(r:k<cz ys)(w:FZ h n0 B (ys.set k (gW y i a cM [])))(t:eR h X (Ir y) C)(n:¬cK B (ys.set k (gW y i a cM [])) X)(A:h.tr.get d=Z (.bZ (iF.flat W) cd 3 b))(l:¬cK B (ys.set k (gW y i a cM [])) d)(b:cz W<1000000)(L:bU e 12 X)(O:bC e 13 i)(N:bY e 95=dB (Z ⟨d,0,K⟩) (cz W) (cz W))(S:bC e 96 (cz W))(T:bC e 97 0)(C':∀d h' F,aG KvL e d->cV h h' n0 B (ys.set k (gW y i a cM [])) B (ys.set k (gW y i a F (W.map (·.2))))->z (.exit 8) d h'):aK FF (.loop po) e h z:=by
 have b:=(cY.mp G).1;have hvl:cz (W.map (·.2))=cz W:=J
 refine aK.loop (ay6 h n0 B ys y k i X C a (W.map (·.2)) e) ?_ (n:=cz (W.map (·.2))) ⟨0,cM,Q,ab,aG.refl _ _,T,jZ ⟨J,Q⟩,.refl w M⟩;rintro m d h'⟨j,F,rfl,w,B,w,G,T⟩;have Iw:=B.at L;have p:=B.at O;have q95:=B.at N;have U:=B.at S;have g:=T.g;have E:=g.ok;unfold po;by_cases bg:j<cz W
 .have wj:=ch ((j:Int)+1) ab ab;have⟨x,hx⟩:=aQ W j;have L:=g.get M A l;have rx:=aqz L hx;have l:(ys.set k (gW y i a F ((W.map (·.2)).take j)))[k]?=Z (gW y i a F ((W.map (·.2)).take j)):=by rw[fO,bK Q,bK r]
  have P:=T.w.at l;have D:(gW y i a F ((W.map (·.2)).take j)).ps[i]?=Z (⟨a,(W.map (·.2)).take j⟩,F):=by simp[gW,b]
  have r:eM jf h' y.P (y.ps.set i (⟨a,(W.map (·.2)).take j⟩,F)):=P.P;obtain⟨d,cs,o,s,N,S,A,dD,A,eQ⟩:=r.el D;have O:=A 1 1 ag;simp[-ax] at O;have A:=r.len;simp at A;have r:=g.get M t n;have f:=r;simp[Ir] at f;rw[N,A] at f;have oX:=E.cg r;have ob:=E.cg S;have v:=E.cg L;have L:=E.st _ _ _ _ _ r;have L:(gW y i a F ((W.map (·.2)).take j)).loc .P=Z d:=cD N;have nXb:¬X=d:=λe=>by rcases T.s d ⟨Z (k,.P),by rw[cC l];exact L⟩ with h1|h1;exact n (e▸h1);have:=M.wf _ _ t;omega
  have W':i<cz y.ps:=b;simp[Iw,p,q95,U,w,bg,rx,O,W',-ax,aH,cn,bj,eY,oX,ob,v,aB f,aI];have⟨I,f⟩:∃I,I=tick (put (aJ h' [fc ft 0,dC cd,fc ft 0] 0) h'.aw 0 [fc ft 0,dC cd,fc ft 0] [fc ft x.1,dC x.2.1,fc ft x.2.2] 0):=⟨_,Q⟩;have n:ay aR h' I:=by rw[f];exact((ay.refl E).var _ _).tick
  have aCo:I.aw=h'.aw+1:=by rw[f];rfl
  rw[<-f];have O:=aO n.ok (cZ.enc x.2) 0;have JU:=(G.grow E n ai).grow n.ok O ai;have hw3:bp cZ (aJ I (cZ.enc x.2) 0) (dB (Z ⟨I.aw,0,K⟩) 1 1) [x.2]:=dq (bX _ _ _);have f:=g.aw;have f:cz ((W.map (·.2)).take j)=j:=by simp;omega
  obtain⟨f,f,b,p,v,La⟩:=fg (bytes:=16) O.ok (z:=[dC cd,fc ft 0]) rfl JU hw3 ab ag (by simp;omega);rw[aCo] at b;refine mn (aj b) ?_;obtain⟨V,rfl⟩:=bm.E5 p;have lo:∀b,bx F.v b->h.aw<=b:=λb u=>G.of u;have nFb:¬bx F.v d:=λu=>by have:=T.w.KO l .P (.R i) d L (by rw[YB.jr D];exact dI u);cases this
  have G:X<h.aw:=M.wf _ _ t;have G:ay (bx F.v) h' f:=(n.cm.trans O.cm).trans' v ai ai;have n:=G.get E r (λh=>av (lo X h));have r:=G.get E S nFb;simp[Ir] at n;rw[N,A] at n;have N:C<=h'.clock+1:=ab
  have A:=dD 1 1 ag;simp at A;simp[n,N,W',r,A,w,wj];have n:ay (· =d) f (put f d (i*2+1) cs [dB V.a V.l V.c] o):=bc v.ok r;have r:(W.map (·.2)).take (j+1)=(W.map (·.2)).take j++[x.2]:=by rw[kh,gM,hx];rfl
  have A:=eQ (⟨a,(W.map (·.2)).take (j+1)⟩,V) 1 [V.v] J rfl (put f d (i*2+1) cs [dB V.a V.l V.c] o) ⟨_,aZ _ _ _ _ _ _⟩;rw[<-r] at p;have d:∀b,dt V=Z b->h'.aw<=b:=λb u=>by rcases p with⟨_,H⟩|⟨f,f,H,f,_,_⟩;simp at H;simp[dt,H] at u;simp at H;rw[cD H.1] at u;cases u;have:=La _ (fH H.1);simp at this;omega
  have f:=p.grow v.ok n (λb u e=>by have:=d b (dI u);have:=ob.lt;omega);have v:=T.row (p':=(⟨a,(W.map (·.2)).take (j+1)⟩,V)) vo l D (G.trans' n (λb _ u=>jZ ⟨.R i,kd Q,by rw[YB.jr D];exact dI u⟩) (λb _ e=>jZ ⟨.P,jZ Q,by rw[e];exact L⟩)) A (eO f) (λc L=>kd (d c L));refine⟨cz (W.map (·.2))-(j+1),ab,j+1,V,Q,ab,?_,J,f,?_⟩
  .exact aq
  simpa [gW] using v
 .have:j=cz (W.map (·.2)):=ab
  subst this;rw[mO] at T;simp only[hvl] at w;simp[U,w];exact C' _ _ F (B.set) T
structure Lz(f:Int->Int)(pk:List Int)(N:Nat):Prop where
 nd:pk.Nodup
 inj:∀a∈pk,∀b∈pk,0<=f a->f a=f b->a=b
 lt:∀a∈pk,f a<N
def pd(f:Int->Int)(N:Nat)(pk:List Int)(p:GP):GP:=⟨p.dst,iP (fS f (pk.zip p.row)) N⟩
def Lz.keys(g:Lz f pk N)(E:cz row=cz pk):Inj (cz (fS f (pk.zip row))) (fS f (pk.zip row))/\∀x∈fS f (pk.zip row),0<=x.1/\x.1<N:=by
 have c:∀x∈pk.zip row,x.1∈pk:=λx d=>(bV (a:=x.1) (b:=x.2) d).1;have D:(pk.zip row).map (·.1)=pk:=List.map_fst_zip ab;have C:(pk.zip row).Pairwise (λa b=>a.1≠b.1):=by have:=g.nd;rw[<-D] at this;exact ic.1 this
 have w:(fS f (pk.zip row)).Pairwise (λa b=>a.1≠b.1):=by unfold fS;rw[List.pairwise_filterMap];refine C.imp_of_mem fun {a b} ha hb eV x d y m=>?_;split at d;split at m;cases d;cases m;rename_i h1 _;exactλe=>eV (g.inj _ (c a ha) _ (c b hb) h1 e);cases m;cases d
 refine⟨λp q o u e=>?_,λx d=>?_⟩;unfold TO at e;rw[jh o,jh u] at e;simp at e;rcases Nat.lt_trichotomy p q with h|h|h;exact absurd e ((kn.1 w) p q o u h);exact h;exact absurd e.symm ((kn.1 w) q p u o h);unfold fS at d;have⟨y,m,e⟩:=ru.1 d;split at e;cases e;exact⟨by assumption,g.lt _ (c y m)⟩;cases e
def FZ.mq{B:SV}(w:FZ h n0 B ys)(d:cu h)(e:cK B ys c):c<h.aw:=by have⟨l,e⟩:=e;exact w.lt d e
def ahV(D:cu h)(N:n0<=h.aw){B:SV}{V:SV}(l:FZ h n0 B ys)(M:ys[k]?=Z y)(G:y.ps[j]?=Z q)(a:eR h X (Ir y) C)(r:¬cK B ys X)(L:V.v=dB K 0 0/\W=[]\/∃d i,V.v=dB (Z ⟨d,0,K⟩) (cz W) (cz W)/\h.tr.get d=Z (.bZ (iF.flat W) cd 3 i)/\¬cK B ys d)(T:cz W<1000000)(u:bU e 12 X)(w:bC e 13 j)(m:bY e 15=V.v)(g:∀b h' F,aG KpT e b->cV h h' n0 B ys B (ys.set k (gW y j q.1.dst F (W.map (·.2))))->z .normal b h'):aK FF Tm e h z:=by
 have p:=(cY.mp G).1;have O:=(cY.mp M).1;have P:=l.at M;obtain⟨b,n,o,s,t,I,A,A,v,v⟩:=P.P.el G;have f:=P.P.len;have H:=a;simp[Ir] at H;rw[t,f] at H;have f:=A 1 1 ag;simp at f;have A:y.loc .P=Z b:=cD t;have t:ay (· =b) h (put h b (j*2+1) n [dB K 0 0] o):=bc D I;have S:=v (⟨q.1.dst,[]⟩,cM) 1 [dB K 0 0] J rfl (put h b (j*2+1) n [dB K 0 0] o) ⟨_,aZ _ _ _ _ _ _⟩;have T1:cV h _ n0 B ys B (ys.set k (gW y j q.1.dst cM [])):=(cV.refl l D).row N M G (t.cU (λx _ e=>jZ ⟨.P,jZ Q,by rw[e];exact A⟩)) S (eM.nil _ _) (λc l=>by simp[dt,cM] at l);have E:∀c,c<h.aw->¬cK B ys c->¬cK B (ys.set k (gW y j q.1.dst cM [])) c:=λc l l h1=>(T1.s c h1).elim l ab;have l:=T1.g.get D a r;unfold Tm;rcases L with⟨U,rfl⟩|⟨d,i,U,B,i⟩
 .rw[U] at m;simp[u,w,m,H,p,I,f];rw[DJ];unfold po;simp;refine g _ _ cM ?_ T1
  repeat (refine aG.set ?_)
  exact aG.refl _ _
 .rw[U] at m;have L:=T1.g.get D B i;simp[u,w,m,H,p,I,f];refine Z4 T1.g.ok (av T1.g.aw) G O T1.w l (E X (D.wf _ _ a) r) L (E d (D.wf _ _ B) i) T (by simp[u]) (by simp[w]) J J J ?_;intro w w F w T;simp;refine g _ _ F (aG.trans ?_ (w.cU)) (T1.trans T)
  repeat (refine aG.set ?_)
  exact aG.refl _ _
structure KZ(h1:az)(own:Nat->Prop)(n dA d8 n8:Nat)(ats:List Int)(ws:List SV)(ah:List (List Int)):Prop where
 nn:n<=1000
 hA:di h1 dA (encI.flat ats)
 al:cz ats=n
 acc:lx encI n8 h1 d8 ws ah
 nA:¬own dA
 low:∀b,own b->b<n8
 rows:Iy n ah
 short:∀ps∈ah,cz ps<50
def KZ.at{a:Nat->Prop}(k:KZ h1 a n dA d8 n8 ats ws ah)(d:cu h1)(g:ay a h1 h'):KZ h' a n dA d8 n8 ats ws ah:=by have⟨s,m⟩:=k.hA;exact⟨k.nn,⟨s,g.get d m k.nA⟩,k.al,k.acc.grow d g (λb o h=>av (k.low b h)),k.nA,k.low,k.rows,k.short⟩
def asl(o:az)(n0:Nat)(B:SV)(ys:List YB)(y:YB)(k:Nat)(u:GP->GP)(e:Env)(m:Nat)(a:Env)(h':az):Prop:=
 ∃(j:Nat) (d:List (GP×SV)),m=cz y.ps-j/\j<=cz y.ps/\cz d=j/\aG SQ e a/\bC a 56 j/\cV o h' n0 B ys B (ys.set k {y with ps:=d++y.ps.drop j})/\d.map (·.1)=((y.ps.map (·.1)).take j).map u
def Z3{h1 M:az}(gT:cu h1){d B:SV}(KB1:KZ h1 (cK d ji) n dA d8 n8 ats ws ah)(T0:cV h1 M n0 d ji B ys)(d:n0<=h1.aw)(d:ys[k]?=Z y)(S:eR M X (Ir y) C)(nX:¬cK B ys X)(QC:ws[k]?=Z m)(i:ah[k]?=Z pk)(f:∀q∈y.ps,cz q.1.row=cz pk)(aoq:Lz (mV ats) pk N)(l:N<=1000)(l:cz y.ps<1000000)(Yc:k<n)(l:bY e 5=dB (Z ⟨dA,0,K⟩) n n)(f8:bY e 8=dB (Z ⟨d8,0,K⟩) n n)(G:bC e 11 k)(a:bU e 12 X)(f54:bY e 54=y.P.v)(p:bC e 55 (cz y.ps))(O:bC e 56 0)(C':∀P h' A,aG SQ e P->cV M h' n0 B ys B (ys.set k {y with ps:=A})->A.map (·.1)=(y.ps.map (·.1)).map (pd (mV ats) N pk)->z (.exit 4) P h'):aK FF (.loop zA) e M z:=by
 have A:=T0.g.ok;have w:=T0.g.aw;have w:=(cY.mp d).1;have b:=T0.w.at d;have r:=b.P.len;have b:ys.set k {y with ps:=[]++y.ps.drop 0} =ys:=by refine BT λr=>?_;rw[fO];by_cases e:k=r;subst e;rw[bK Q,bK w,d];rfl;rw[bM e]
 refine aK.loop (asl M n0 B ys y k (pd (mV ats) N pk) e) ?_ (n:=cz y.ps) ⟨0,[],Q,ab,Q,aG.refl _ _,O,by rw[b];exact .refl T0.w A,J⟩;rintro r P h'⟨j,d,rfl,P,P,b,O,T,V⟩;have g:=T.g;have t:=g.ok;have ln:=g.aw;have q5:=b.at l;have q8:=b.at f8;have EU:=b.at G;have Iw:=b.at a;have a:=b.at f54;have Yh:=b.at p;have p:=KB1.at gT (T0.trans T).g;have cX:=g.get A S nX;have p:=A.wf _ _ S;rw[adX];by_cases S:j<cz y.ps
 .have wj:=ch ((j:Int)+1) ab ab;have⟨q,A⟩:=aQ y.ps j S;have p:=fC (qs:=y.ps) P;rw[A] at p;have⟨G,l⟩:∃G:YB,G= {y with ps:=d++y.ps.drop j} :=⟨_,Q⟩;rw[<-l] at T;have tN:G.ps[j]?=Z q:=by rw[l];exact p
  have xX:(ys.set k G)[k]?=Z G:=by rw[fO,bK Q,bK w]
  have GC:Ir G=Ir y:=by rw[l];rfl
  have w:=T.w.at xX;have hql:=f q (cO A);have pO:=(w.ps q (cO tN)).awJ;have f:eM jf h' y.P (d++y.ps.drop j):=by have:=w.P;rw[l] at this;exact this
  obtain⟨w,w,w,s,jk,w,w,w,dg,w⟩:=f.el p;have w:=f.len;have f:cz (d++y.ps.drop j)=cz y.ps:=by simp;omega
  have p:=dg 0 2 ag;simp[-ax] at p;simp at a;rw[jk,w,f] at a;have f:=ad.len pO;simp[a,Yh,O,S,p,-ax,aH];refine aK.cut (λh1=>ay aR h' h1) ((ay.refl t).var _ _) ?_;intro p p;have T2:=T.cm p;have a:=KB1.at gT (T0.trans T2).g;have⟨o,KB⟩:=a.hA;obtain⟨w,w⟩:=a.acc.bZ;have yf:=a.short pk (cO i);refine adU p.ok (n:=n) (c8:=n) (k:=k) (A:=q.2) a.nn KB a.al w QC Yc (RI a.acc QC i) ((a.rows.row k pk i).2) (pO.mono t p λ_ _ h=>h) hql ab (au q5) (au q8) (au EU) (by simp[cM]) J (au f) J ?_;intro e3 i L g3 a w BP;have f:ay aR h' i:=p.trans g3;have T3:=T2.cm g3;have m12:=a.at (t:=12) (ak Iw);have m13:bY e3 13=fc ft j:=a.at J;have m56:=a.at (t:=56) (ak O);have K3':aG SQ e e3:=by
   refine aG.trans ?_ (a.cU)
   exact aq
  have a:=f.aw;have a:=p.aw;have⟨ay3,U⟩:=aoq.keys hql;have hrn:cz (fS (mV ats) (pk.zip q.1.row))<50:=Nat.lt_of_le_of_lt (xx _ _) (by simp;omega);have qk:∀c,h'.aw<=c->¬cK B (ys.set k G) c:=λc hc h=>av (T.w.mq t h)
  have nX1:¬cK B (ys.set k G) X:=λh=>(T.s X h).elim nX ab;have J':∀(D:az)(a:Env)(W:List (Int×(Bool×Int)))(p:bH->Env->az->Prop),ay (λx=>h'.aw<=x) i D->W.map (·.2)=iP (fS (mV ats) (pk.zip q.1.row)) N->cz W<50->(L.v=dB K 0 0/\W=[]\/∃d sd,L.v=dB (Z ⟨d,0,K⟩) (cz W) (cz W)/\D.tr.get d=Z (.bZ (iF.flat W) cd 3 sd)/\¬cK B (ys.set k G) d)->bU a 12 X->bC a 13 j->bY a 15=L.v->bC a 56 j->aG SQ e a->(∀u E,bC u 56 j->aG SQ e u->(∃I,cz I=j+1/\cV M E n0 B ys B (ys.set k {y with ps:=I++y.ps.drop (j+1)})/\I.map (·.1)=((y.ps.map (·.1)).take (j+1)).map (pd (mV ats) N pk))->p .normal u E)->aK FF Tm a D p:=by
   intro D a W p a hxv yP hLx k12 k13 aDh k56 K4 HQ;have p:=T3.go a (λc hc=>⟨ab,qk c hc⟩);refine ahV a.ok (av p.g.aw) p.w xX tN (by rw[GC];exact a.get f.ok (f.get t cX) ab) nX1 hLx ab k12 k13 aDh ?_;intro u E F t T6;refine HQ u E (t.at k56) (K4.trans (t.cU)) ⟨d++[(⟨q.1.dst,iP (fS (mV ats) (pk.zip q.1.row)) N⟩,F)],au P,?_,?_⟩
   .have:=p.trans T6;rw[xh,hxv] at this;have H:gW G j q.1.dst F (iP (fS (mV ats) (pk.zip q.1.row)) N)= {y with ps:=(d++[(⟨q.1.dst,iP (fS (mV ats) (pk.zip q.1.row)) N⟩,F)])++y.ps.drop (j+1)} :=by rw[l];unfold gW;dsimp only;rw[set_drop P A]
    rw[H] at this;exact this
   rw[aL,V,kh,gM,A,aL];rfl
  have A:∀(u:Env)(E:az),bC u 56 j->aG SQ e u->(∃I,cz I=j+1/\cV M E n0 B ys B (ys.set k {y with ps:=I++y.ps.drop (j+1)})/\I.map (·.1)=((y.ps.map (·.1)).take (j+1)).map (pd (mV ats) N pk))->∃r,r<cz y.ps-j/\asl M n0 B ys y k (pd (mV ats) N pk) e r (Tr.set (Tr.set u 117 (fc ft ((j:Int)+1))) 56 (fc ft ((j:Int)+1))) E:=by intro u E B l ⟨I,G,P,r⟩;exact⟨cz y.ps-(j+1),ab,j+1,I,Q,S,G,aG.set (aG.set l),J,P,r⟩
  simp;rcases al9 BP with⟨H,S⟩|⟨r,sd,H,P,p,p⟩;rw[H] at w;simp[w];refine bh.call (V:=λ_ D=>D=i) (aj (ai3 i)) ?_;rintro v D rfl;simp;refine J' D _ [] _ (.refl f.ok) (by rw[S];unfold iP;simp[fE]) J (jZ ⟨H,Q⟩) (by simp[m12]) (by simp[m13]) (by rw[H];simp[w]) (au m56) (aG.set (aG.set K3')) ?_;intro u E B l G;simp[B,wj];exact A u E B l G;rw[H] at w;simp[w];refine bh.call (V:=λ_ D=>∃W,af_ (fS (mV ats) (pk.zip q.1.row)) W/\cz W=cz (fS (mV ats) (pk.zip q.1.row))/\ay (· =r) i D/\∃s,D.tr.get r=Z (.bZ (iF.flat W) cd 3 s)) (aj (aa6 f.ok P p hrn (λx f=>⟨(U x f).1,av ((U x f).2)⟩) ay3)) ?_;rintro v D⟨W,S,yP,a,f,p⟩;simp;refine J' D _ W _ (a.cU (λx _ e=>ab)) (afc S U) ab (kd ⟨r,f,by rw[yP];exact H,p,qk r ab⟩) (by simp[m12]) (by simp[m13]) (by rw[H];simp[w]) (au m56) (aG.set (aG.set K3')) ?_;intro u E B l G;simp[B,wj];exact A u E B l G
 .have:j=cz y.ps:=ab
  subst this;rw[bE,Bx] at T;simp[Yh,O];exact C' _ _ d (b.set) T (by rw[V,tK J])
structure EB(bs:List GB):Prop where
 n1:1<=cz bs
 n50:cz bs<50
 kind:∀b∈bs,(b.kind=1/\b.to=[])\/(b.kind=2/\∃t,b.to=[t])\/(b.kind=3/\∃t u,b.to=[t,u]/\t≠u)
 to:∀b∈bs,∀t∈b.to,1<=t/\t<cz bs
 rows:∀(i:Nat)(b:GB),bs[i]?=Z b->∀p∈b.bz,cz p.row=cz (aN bs i)
 pl:∀b∈bs,cz b.bz<100000
def EB.nd(w:EB bs){b:GB}(h:b∈bs):b.to.Nodup:=by rcases w.kind b h with⟨_,e⟩|⟨_,t,e⟩|⟨_,t,u,e,d⟩<;>rw[e]<;>simp[*]
def EB.two(w:EB bs){b:GB}(h:b∈bs):cz b.to<=2:=by rcases w.kind b h with⟨_,e⟩|⟨_,t,e⟩|⟨_,t,u,e,_⟩<;>rw[e]<;>simp
def EB.tok(w:EB bs):TOk (cw bs):=by
 have C:cz (cw bs)=cz bs:=by simp[cw]
 have:=w.n50;refine⟨ab,λo d=>?_,λo d t u=>?_⟩<;>obtain⟨b,m,rfl⟩:=kC.1 d;exact w.two m;have:=w.to b m t u;omega
def EB.ends(w:EB bs):kE bs:=⟨av w.n50,λ_ h=>w.two h,λb h t d=>av (w.to b h t d)⟩
def ac0(d:l.Nodup)(a:∀t∈l,0<=t)(u:Nat):(l.map qA).count u=if(u:Int)∈l then 1 else 0:=by
 induction l with
 |nil=>simp
 |cons x W m=>
  have⟨h1,o⟩:=List.nodup_cons.1 d;have:=m o (λt w=>a t (xV _ w));have D:=a x (iY ..);rw[xg,List.count_cons,this];by_cases e:x=u
  subst e;simp[h1]
  .have d:¬x.toNat=u:=ab
   have C:¬(u:Int)=x:=λh=>e h.symm;simp[d,C]
def EB.rowOf{bs:List GB}(w:EB bs)(u:Nat):∀k,k<=cz bs->Edge.rowOf (cw bs) u k=jX bs k u
 |0,_=>rfl
 |k+1,h=>by
  have⟨b,d⟩:=aQ bs k;have m:=cO d;unfold Edge.rowOf;rw[EB.rowOf w u k ab];unfold jX;rw[K3,dQ,aL];congr 1;have C:((cw bs)[k]?).getD []=b.to:=by unfold cw;rw[gM,d];rfl
  rw[C,ac0 (w.nd m) (λt o=>av (w.to b m t o))];by_cases e:(u:Int)∈b.to;simp[d,e];simp[d,e]
def EB.ahead(w:EB bs)(D:k<cz bs):(Edge.df (cw bs))[k]?=Z (aN bs k):=by
 have u:cz (cw bs)=cz bs:=by simp[cw]
 have⟨E,d⟩:=aQ (Edge.df (cw bs)) k (by rw[Edge.lM];omega);rw[d,Edge.acN (λo m t C=>av (w.tok.to o m t C)) d,u,w.rowOf k _ (fq _)];rfl
def jz(bs:List GB)(b:Int):(aN bs b).Nodup:=by unfold aN jX;exact(ic.2 ((List.nodup_range.filter _).imp λh e=>h ab))
def cJ{b a:Int} :a∈aN bs b↔ ∃i:Nat,a=i/\∃x,bs[i]?=Z x/\b∈x.to:=by unfold aN jX;simp only[kC,EL,OB,decide_eq_true_eq];constructor;rintro⟨i,⟨_,h⟩,rfl⟩;exact⟨i,Q,h⟩;rintro⟨i,rfl,x,h1,d⟩;exact⟨i,⟨(cY.mp h1).1,x,h1,d⟩,Q⟩
def mP(bs:List GB)(b:Int):cz (aN bs b)<=cz bs:=B9 bs (cz bs) b
def eW(f:Int->Int)(N:Nat)(pk:List Int)(b:GB):GB:=⟨b.bz.map (pd f N pk),b.list,b.kind,b.on,b.to.map f⟩
def noG:GB:=⟨[],[],0,(cd,0),[]⟩
def bu(bs:List GB)(a:List Nat):List GB:=a.map λk:Nat=>eW (aV (nI a)) (cz a) (aN bs k) ((bs[k]?).getD noG)
def Z9{l:List (Int×(Bool×Int))}(h:∀x∈l,f x.1=u x.1):fS f l=fS u l:=by
 unfold fS;induction l with
 |nil=>rfl
 |cons x W d=>
  rw[B5,B5,d (λy m=>h y (xV _ m)),h x (iY ..)]
def aaa{b:GB}(h1:∀x∈pk,f x=u x)(d:∀x∈b.to,f x=u x):eW f N pk b=eW u N pk b:=by unfold eW pd;congr 1;refine cc λp _=>?_;congr 2;exact Z9 λx m=>h1 _ (bV (a:=x.1) (b:=x.2) m).1;exact cc d
def Q6{a:List Nat}(b:a.Nodup)(h:a[i]?=Z k):aV (nI a) k=i:=by
 refine Aq (Nw h) λm C e=>?_;unfold nI at e;rw[gM] at e;rcases d:a[m]? with _|y;rw[d] at e;cases e;rw[d] at e;have D:(y:Int)=k:=aj e
 have o:y=k:=ab
 subst o;have u:=(cY.mp h).2;have w:=(cY.mp d).2;have:=(eX b).1 (u.trans w.symm);omega
def aaE{d:List Nat}(h:k∉d):aV (nI d) k= -1:=by
 refine v7 λd=>?_;unfold nI at d;have⟨y,m,e⟩:=kC.1 d;have:y=k:=ab
 exact h (this▸m)
structure Ord(n:Nat)(bw:List Nat):Prop where
 nd:bw.Nodup
 lt:∀x∈bw,x<n
def Ord.len{a:List Nat}(o:Ord n a):cz a<=n:=by have:=TP o.nd (l₂:=aU n) (λx d=>OB.2 (o.lt x d));simpa using this
def Ord.place{a:List Nat}(o:Ord n a)(u:Nat):(∃i:Nat,a[i]?=Z u/\aV (nI a) u=i/\i<cz a)\/(u∉a/\aV (nI a) u= -1):=by by_cases h:u∈a;have⟨i,d⟩:=iG h;exact jZ ⟨i,d,Q6 o.nd d,(cY.mp d).1⟩;exact kd ⟨h,aaE h⟩
def Ord.key{d:List Nat}(o:Ord n d){k:Int}(I:cz bs=n)(m:∀u:Nat,u<n->f u=aV (nI d) u):Lz f (aN bs k) (cz d):=by
 have b:∀a∈aN bs k,∃u:Nat,a=u/\u<n:=λa d=>by obtain⟨i,rfl,x,h,_⟩:=cJ.1 d;exact⟨i,Q,by rw[<-I];exact(cY.mp h).1⟩
 refine⟨jz _ _,λa d w H G e=>?_,λa d=>?_⟩
 .obtain⟨u,rfl,C⟩:=b a d;obtain⟨v,rfl,E⟩:=b w H;rw[m u C] at G e;rw[m v E] at e;rcases o.place u with⟨i,h1,w,_⟩|⟨_,w⟩
  .rcases o.place v with⟨j,D,G,_⟩|⟨_,G⟩
   .have:i=j:=ab
    subst this;rw[h1] at D;cases D;rfl
   omega
  omega
 obtain⟨u,rfl,C⟩:=b a d;rw[m u C];rcases o.place u with⟨i,h1,w,D⟩|⟨_,w⟩<;>omega
def Bo{ys:List H}{y:H}(d:ys[k]?=Z y):ys.set k y=ys:=by refine BT λm=>?_;rw[fO];by_cases e:k=m;subst e;rw[bK Q,bK (cY.mp d).1,d];rw[bM e]
def ay5(h:az)(n0:Nat)(B:SV)(ys:List YB)(y:YB)(k:Nat)(f:Int->Int)(e:Env)(m:Nat)(a:Env)(h':az):Prop:=
 ∃j:Nat,m=cz y.to-j/\j<=cz y.to/\aG KtL e a/\bC a 122 j/\cV h h' n0 B ys B (ys.set k {y with to:=(y.to.take j).map f++y.to.drop j})
def ahP(f:cu h){B:SV}(vo:n0<=h.aw)(W:FZ h n0 B ys)(q:eR h dA (encI.flat ats) o)(w:cz ats=n)(nA:¬cK B ys dA)(w:ys[k]?=Z y)(d:∀t∈y.to,0<=t/\t<n)(G:cz y.to<1000000)(G:n<1000000)(G:eR h X (Ir y) C)(nX:¬cK B ys X)(L:bY e 5=dB (Z ⟨dA,0,K⟩) n n)(F:bU e 12 X)(c:bY e 120=y.T.v)(b:bC e 121 (cz y.to))(M:bC e 122 0)(v:∀T h',aG KtL e T->cV h h' n0 B ys B (ys.set k {y with to:=y.to.map (mV ats)})->z (.exit 10) T h'):aK FF (.loop zy) e h z:=by
 have i:=(cY.mp w).1;have P:=W.at w;have O:=P.T.len;refine aK.loop (ay5 h n0 B ys y k (mV ats) e) ?_ (n:=cz y.to) ⟨0,Q,ab,aG.refl _ _,M,by rw[show ys.set k {y with to:=(y.to.take 0).map (mV ats)++y.to.drop 0} =ys from Bo w];exact .refl W f⟩;rintro m T h'⟨j,rfl,T,B,H,T⟩;have q5:=B.at L;have L:=B.at F;have w:=B.at c;have I:=B.at b;have g:=T.g;have bD:=g.ok;unfold zy;by_cases c:j<cz y.to
 .have F:=ch ((j:Int)+1) ab ab;have⟨t,b⟩:=aQ y.to j c;obtain⟨l,l⟩:=d t (cO b);obtain⟨u,rfl⟩:∃u:Nat,t=u:=⟨t.toNat,ab⟩;have OM:u<n:=ab
  have⟨d,D⟩:∃d,d=(y.to.take j).map (mV ats)++y.to.drop j:=⟨_,Q⟩;rw[<-D] at T;have l:(ys.set k {y with to:=d})[k]?=Z {y with to:=d} :=by rw[fO,bK Q,bK i]
  have i:eM encI h' y.T d:=(T.w.at l).T;have E:cz ((y.to.take j).map (mV ats))=j:=by simp;omega
  have aC1:d[j]?=Z (u:Int):=by rw[D,fC E,b]
  obtain⟨p,cs,o',s,r,t,S,S,A,N⟩:=i.el aC1;have i:=A 0 1 ag;simp[-ax] at i;have hA':=g.get f q nA;have⟨a,q⟩:=aQ ats u;have A:=ov hA' q;have cX:=g.get f G nX;have U:=cX;simp[Ir] at U w;rw[r,O] at U w;have f:=S 0 1 ag;simp at f;have S:=aB U;simp[q5,L,w,I,H,c,i,U,S,OM,A,t,f,F,aI,-ax];have f:ay aR h' (tick h'):=(ay.refl bD).tick;have F:({y with to:=d} :YB).loc .T=Z p:=cD r;have V:=N a 0 [fc ft a] J rfl (put (tick h') p j cs [fc ft a] o') ⟨(tick h').clock,J⟩;have T2:=T.to vo l (f.cm.trans ((bc (off:=j) (vs:=[fc ft a]) f.ok t).cU (λx _ e=>jZ ⟨.T,Q,by rw[e];exact F⟩))) V;rw[xh] at T2;refine⟨cz y.to-(j+1),ab,j+1,Q,c,?_,J,?_⟩
  .exact aq
  .have c:mV ats (u:Int)=a:=by simp[mV,q]
   have q:d.set j a=(y.to.take (j+1)).map (mV ats)++y.to.drop (j+1):=by rw[D,set_drop E b,kh,b,aL];simp[c]
   rw[q] at T2;exact T2
 .have:j=cz y.to:=ab
  subst this;rw[mO,bE,Bx] at T;simp[I,H];exact v _ _ (B.set) T
def ay9(h1:az)(n0 F R:Nat)(B O:SV)(u g:aa)(f:Int->Int)(N:Nat)(ah:List (List Int))(b:List Nat)(ys:List YB)(m:Nat)(e:Env)(h':az):Prop:=
 ∃(i:Nat) (o d:List YB) (A:SV),m=cz b-i/\i<=cz b/\bU e 2 F/\bU e 4 R/\bY e 5=u/\bY e 8=g/\bY e 42=O.v/\bC e 43 (cz b)/\bC e 44 i/\bY e 9=A.v/\cV h1 h' n0 B ys B o/\(∀c,bx A.v c->¬cK B o c)/\cz o=cz ys/\bm eF h1.aw h' A.v d/\cz d=i/\(∀(j k:Nat)(a:YB),b[j]?=Z k->d[j]?=Z a->o[k]?=Z a)/\∀(k:Nat)(y z:YB),ys[k]?=Z y->o[k]?=Z z->(k∈b.take i->∃pk,ah[k]?=Z pk/\z.g=eW f N pk y.g)/\(k∉b.take i->z=y)
def Tj(P:cu h1){B:SV}(u:KZ h1 (cK B ys) n dA d8 n8 ats ws ah)(zI:cz ys=n)(vo:n0<=h1.aw)(W:FZ h1 n0 B ys){p r1:Int}(hF:eR h1 F (aC name p r1 B) M)(S:¬cK B ys F){r:List Nat}(o:Ord n r)(x:N=cz r)(T:bp encI h1 O.v (nI r))(κO:r≠[]->∀f,bx O.v f->¬cK B ys f)(MV:∀y∈ys,cz y.to<1000000/\∀t∈y.to,0<=t/\t<n)(iV:∀(k:Nat)(y:YB)(pk:List Int),ys[k]?=Z y->ah[k]?=Z pk->Lz (mV ats) pk N/\∀q∈y.ps,cz q.1.row=cz pk)(tj:∀y∈ys,cz y.ps<1000000){z:bH->Env->az->Prop}(G:bU e 2 F)(l:bU e 4 R)(x:bY e 5=dB (Z ⟨dA,0,K⟩) n n)(f8:bY e 8=dB (Z ⟨d8,0,K⟩) n n)(d:bY e 42=O.v)(f43:bC e 43 (cz r))(b:bC e 44 0)(X:bY e 9=cM.v)(C':∀v h' w D A,bU v 2 F->bU v 4 R->bY v 9=SV.v A->cV h1 h' n0 B ys B w->(∀c,bx (SV.v A) c->¬cK B w c)->bm eF h1.aw h' (SV.v A) D->cz D=cz r->(∀(j k:Nat)(a:YB),r[j]?=Z k->D[j]?=Z a->w[k]?=Z a)->(∀(k:Nat)(y L:YB),ys[k]?=Z y->w[k]?=Z L->k∈r->∃pk,ah[k]?=Z pk/\L.g=eW (mV ats) N pk y.g)->z (.exit 2) v h'):aK FF (.loop zB) e h1 z:=by
 have L:=u.nn;have hOl:O.l=cz r:=by have⟨a,L,e,_⟩:=id T;simp[nI] at e;exact e.2.1
 have L:=o.len;have nd:=o.nd;refine aK.loop (ay9 h1 n0 F R B O (dB (Z ⟨dA,0,K⟩) n n) (dB (Z ⟨d8,0,K⟩) n n) (mV ats) N ah r ys) ?_ (n:=cz r)
  ⟨0,ys,[],cM,Q,ab,G,l,x,f8,d,f43,b,X,.refl W P,λf hb=>(Dg Q hb).elim,Q,jZ ⟨Q,Q⟩,Q,λj k a _ h=>by simp at h,λk r1 r' h1 d=>⟨λh=>by simp at h,λ_=>by rw[h1] at d;cases d;rfl⟩⟩
 rintro L v h'⟨i,w,D,A,rfl,G,q2,q4,q5,q8,U,q43,TN,q9,b,κA',vS,BP,abT,ahx,H⟩;have g:=b.g;have bD:=g.ok;unfold zB;by_cases fI:i<cz r
 .have wi:=ch ((i:Int)+1) ab ab;have⟨k,L⟩:=aQ r i fI;have G:=o.lt k (cO L);have⟨v,BR⟩:=aQ ys k;have⟨I,x⟩:=aQ w k;have X:k∉r.take i:=by
   intro l;have⟨j,hj⟩:=iG l;rw[A0] at hj;split at hj;have h1:=(cY.mp hj).2;have d:=(cY.mp L).2;have:=(eX nd).1 (h1.trans d.symm);omega
   cases hj
  have l:=(H k v I BR x).2 X;subst l;have⟨pk,QA⟩:=aQ ah k (by rw[u.rows.len];exact G);have⟨m,QC⟩:=aQ ws k (by rw[u.acc.len,u.rows.len];exact G);have l:=acA T P g (λeV f hb h=>κO (λe=>eV (by rw[e];rfl)) f hb h);obtain⟨v,T,T,X5,_,_,X⟩:=l.read (Nw L);have T:=X 0 1 ag;simp[-ax,nI] at T X5;have X:=g.get P hF S;simp[aC] at X;obtain⟨S,v,v,v,fD,v,l,v,l,v⟩:=b.w.A.el x;have v:=b.w.A.len;have S:=l 0 6 ag;simp[-ax] at S;rw[fD,v,vS,zI] at X;simp at U;rw[X5.1,hOl] at U;have l:=b.w.at x;have v:=l.P.len;have qg:=l.T.len;have l:=bD.cg X;simp[q2,U,q43,TN,fI,T,X,G,S,-ax,aH,aB X,v];refine aK.cut (λd=>ay aR h' d/\di d h'.aw (Ir I)) ?_ ?_
  refine⟨(ay.refl bD).var _ _,h'.clock,?_⟩;simp[aX,v,Ir];rintro d⟨g2,C,X⟩;have T:=g.aw;have T2:=b.cm g2;have nX:¬cK B w h'.aw:=λh=>av (b.w.mq bD h)
  have⟨l,T⟩:=iV k I pk BR QA;refine Z3 P u T2 vo x X nX QC QA T l ab (tj I (cO BR)) G (au q5) (au q8) J J (au v) J J ?_;intro x h3 qs T l Mq;have S:=T2.trans l;have k2:=T.at (t:=2) (ak q2);have k4:=T.at (t:=4) (ak q4);have k5:=T.at (t:=5) (ak q5);have k8:=T.at (t:=8) (ak q8);have k9:=T.at (t:=9) (ak q9);have v:bU x 12 h'.aw:=T.at J;have k42:=T.at (t:=42) (ak U);have k43:=T.at (t:=43) (ak q43);have k44:=T.at (t:=44) (ak TN);have hkC:k<cz w:=ab
  have⟨G,x⟩:∃G:YB,G= {I with ps:=qs} :=⟨_,Q⟩;rw[<-x] at l S;have hy3:(w.set k G)[k]?=Z G:=by rw[fO,bK Q,bK hkC]
  have Qv:Ir G=Ir I:=by rw[x];rfl
  have dK:=l.g.get g2.ok X nX;have T:=g2.aw;have low:∀(ws:List YB),cV d h3 n0 B w B ws->∀c,c<d.aw->¬cK B w c->¬cK B ws c:=λws b c E T h=>(b.s c h).elim T ab;have lX2:=g2.ok.wf _ _ X;have T:=u.at P S.g;have⟨X,JU⟩:=T.hA;have nA:¬cK B (w.set k G) dA:=λh=>(S.s dA h).elim u.nA (λE=>by have⟨s,X⟩:=u.hA;have:=P.wf _ _ X;omega)
  have⟨qW,P⟩:=MV I (cO BR);have X:G.to=I.to:=by rw[x]
  have hT3:G.T.v=I.T.v:=by rw[x]
  have T:=dK;simp[Ir] at T;simp[v,T];refine ahP S.g.ok (n:=n) (av S.g.aw) S.w JU u.al nA hy3 (by rw[X];exact P) (by rw[X];exact qW) ab (by rw[Qv];exact dK) (low _ l _ lX2 nX) (au k5) (au v) (aj hT3.symm) (by simp[qg,X]) J ?_;intro T h4 P T4;have X:=S.trans T4;have m2:=P.at (t:=2) (ak k2);have m4:=P.at (t:=4) (ak k4);have m5:=P.at (t:=5) (ak k5);have m8:=P.at (t:=8) (ak k8);have m9:=P.at (t:=9) (ak k9);have m12:bU T 12 h'.aw:=P.at (ak v);have m42:=P.at (t:=42) (ak k42);have m43:=P.at (t:=43) (ak k43);have m44:=P.at (t:=44) (ak k44);rw[xh] at X;have⟨v,T⟩:∃v:YB,v= {G with to:=G.to.map (mV ats)} :=⟨_,Q⟩;rw[<-T] at X;have P:=T4.g.get l.g.ok dK (low _ l _ lX2 nX);have e43:eF.enc v=Ir I:=by rw[T,x];rfl
  have S:=P;simp[Ir] at S m9;simp[m9,m12,S];have lA':∀c,bx A.v c->c<h'.aw:=λc E=>(eO BP).cg bD E;have G:ay (cK B w) h' h4:=(g2.cm.trans l.g).trans' T4.g ai (λc E h=>(l.s c h).elim id (λh=>ab));have P:bm eF h1.aw h4 A.v D:=BP.grow bD G (λf hb h=>κA' f hb h);have f:=aO X.g.ok (eF.enc v) 0;have Dw:=P.grow X.g.ok f ai;have Ad:bp eF (aJ h4 (eF.enc v) 0) (dB (Z ⟨h4.aw,0,K⟩) 1 1) [v]:=dq (bX _ _ _);have S:=X.g.aw;obtain⟨P,h6,P,S,g6,hd6⟩:=fg (bytes:=96) f.ok (z:=[dB K 0 0,dB K 0 0,fc ft 0,dC cd,fc ft 0,dB K 0 0]) rfl Dw Ad ab ag (by simp;omega);refine dh (by rw[e43] at P;simpa [Ir] using P) ?_;obtain⟨V,rfl⟩:=bm.E5 S;have P:=G.aw;have G:∀c,cK B (w.set k v) c->cK B w c\/d.aw<=c:=λc E=>by have:=l.trans T4;rw[xh,<-T] at this;exact this.s c E
  have l:cV h1 h6 n0 B ys B (w.set k v):=(X.cm f).go g6 (λc E=>⟨BP.of E,λh=>by have:=lA' c E;exact(G c h).elim (κA' c E) ab⟩);simp[m44,wi];refine⟨cz r-(i+1),ab,i+1,w.set k v,D++[v],V,Q,ab,au m2,au m4,au m5,au m8,by simp[m42,X5.1,hOl],au m43,J,J,l,λc E h=>?_,au vS,S,au abT,?_,?_⟩;have S:=hd6 c E;have:=X.w.mq X.g.ok h;simp at S;omega
  .intro j B a h1 d;rw[fO];by_cases hj:j<i
   .rw[MG ab] at d;have eV:¬k=B:=λe=>by subst e;have f:=(cY.mp h1).2;have P:=(cY.mp L).2;have:=(eX nd).1 (f.trans P.symm);omega
    rw[bM eV];exact ahx j B a h1 d
   .rw[OC ab] at d;have l:j-cz D=0:=by have:=(cY.mp d).1;simp at this;omega
    have S:j=i:=ab
    subst S;rw[l] at d;simp at d;rw[L] at h1;cases h1;rw[bK Q,bK hkC,d]
  intro B a c h1 d;rw[kh,L];rw[fO] at d;by_cases X:k=B;subst X;rw[bK Q,bK hkC] at d;cases d;rw[BR] at h1;cases h1;refine⟨λ_=>⟨pk,QA,?_⟩,λh=>absurd (af _ J) h⟩;rw[T,x];unfold eW YB.g;rw[Mq];rw[bM X] at d;have⟨P,f⟩:=H B a c h1 d;refine⟨λh=>P ?_,λh=>f (λh'=>h (aW _ h'))⟩;rcases kg.1 h with h|h;exact h;simp at h;exact absurd h.symm X
 .have:i=cz r:=ab
  subst this;rw[mO] at H;simp[q43,TN];exact C' _ _ w D A (au q2) (au q4) (au q9) b κA' BP abT ahx (λk r1 r' h1 d=>(H k r1 r' h1 d).1)
def FZ.sel{B A:SV}{ys W:List YB}(w:FZ h n0 B ys)(M:eM eF h A W)(f:Nat->Nat)(E:∀(i:Nat)(x:YB),W[i]?=Z x->ys[f i]?=Z x)(H:∀i j:Nat,i<cz W->j<cz W->f i=f j->i=j)(C:∀c,dt A=Z c->n0<=c/\¬cK B ys c):FZ h n0 A W/\(∀c,cK A W c->cK B ys c\/dt A=Z c)/\(xS B ys->xS A W):=by
 have b:∀(o:Option (Nat×Lo))(c:Nat),dV A W o=Z c->(o=K/\dt A=Z c)\/∃i l,o=Z (i,l)/\i<cz W/\dV B ys (Z (f i,l))=Z c:=λo c D=>by
  match o with
  |none=>exact jZ ⟨Q,D⟩
  |some (i,l)=>
   have⟨x,h1,g⟩:=JT.1 D;exact kd ⟨i,l,Q,(cY.mp h1).1,by rw[cC (E i x h1)];exact g⟩
 have g:∀p,Ly p (dV B ys)->Ly p (dV A W):=λp q a k c I G=>by rcases b a c I with⟨rfl,u⟩|⟨i,l,rfl,m,u⟩;rcases b k c G with⟨rfl,d⟩|⟨j,n,rfl,B,d⟩;exact jZ rfl;exact absurd ⟨_,d⟩ (C c u).2;rcases b k c G with⟨rfl,d⟩|⟨j,n,rfl,B,d⟩;exact absurd ⟨_,u⟩ (C c d).2;refine(q _ _ c u d).imp (λe=>?_) id;simp only[oy,BM] at e;rw[H i j m B e.1,e.2]
 refine⟨⟨M,λy B=>?_,g True w.inj,λo c e=>?_⟩,λc ⟨o,e⟩=>?_,g False⟩;have⟨i,m⟩:=iG B;exact w.at (E i y m);rcases b o c e with⟨rfl,p⟩|⟨i,l,rfl,m,p⟩;exact(C c p).1;exact w.new _ c p;rcases b o c e with⟨rfl,p⟩|⟨i,l,rfl,m,p⟩;exact kd p;exact jZ ⟨_,p⟩
def afY(name:ByteArray)(p r:Int)(n0:Nat)(B:SV)(ys:List YB)(m:List GB)(h:az)(v:aa)(h':az):Prop:=
 ∃(d:SV) (a:List YB),v=ix ⟨aC name p r d⟩/\cV h h' n0 B ys d a/\a.map YB.g=m
def Nd(D:cu h){name:ByteArray}{p r:Int}{B O:SV}{b:List Nat}(W:FZ h n0 B ys)(d:n0<=h.aw)(E:EB (ys.map YB.g))(d:Ord (cz ys) b)(V:bp encI h O.v (nI b))(κO:b≠[]->∀t,bx O.v t->¬cK B ys t):aY FF 137 [ix ⟨aC name p r B⟩,O.v] h (afY name p r n0 B ys (bu (ys.map YB.g) b) h):=by
 have w:=W.A.len;have P:=E.n50;have N:O.l=cz b:=by have⟨a,X,e,_⟩:=id V;simp[nI] at e;exact e.2.1
 have f:=d.len;simp only[AZ] at P;have P:∀c,h.aw<=c->¬cK B ys c:=λc m h1=>av (W.mq D h1)
 refine aY.of U9 ?_;unfold JK;have g:¬h.aw=h.aw+1+1:=ab
 simp[aC,g];refine bh.cut (λh1=>ay aR h h1/\(di h1 h.aw (aC name p r B))/\(di h1 (h.aw+1) [gX ⟨⟨[]⟩⟩,fc ft 0,fc ft 0,dB K 0 0])/\(di h1 (h.aw+1+1) [fc ft (-1)])) ?_ ?_;exact⟨(((ay.refl D).new _ _).new _ _).new _ _,⟨0,by simp[aC,g]⟩,⟨0,J⟩,⟨0,J⟩⟩;rintro h1⟨g,⟨M,T⟩,⟨sR,S⟩,⟨L,L⟩⟩;refine bh.call (V:=λv h'=>ay aR h1 h'/\∃n s,v=dB (Z ⟨n,0,K⟩) (cz ys) (cz ys)/\h1.aw<=n/\h'.tr.get n=Z (.bZ (encI.flat (ae (cz ys) (-1:Int))) cd 0 s)) (by simpa [w] using NX g.ok (cz ys) ab (x:= -1) L) ?_;rintro _ w⟨g2,dA,o,rfl,L,G⟩;have L:=g.trans g2;have jg:=g2.get g.ok T;have tM:=g2.get g.ok S;have T:=g.ok.wf _ _ S;simp[N];refine alp L.ok (n:=cz ys) d.nd d.lt f ab (V.cm D L) (λt S T e=>?_) G J (au N) J J ?_
 .subst e;have G:t<h.aw:=by
   obtain⟨G,G,G,f⟩:=S;obtain⟨a,X,X,G⟩:=V;rcases G with⟨h1,_⟩|⟨F,F,F,F,F,F,F,l,_⟩
   .have:cz (nI b)=0:=by rw[h1];rfl
    simp[nI] at this;exact absurd this T
   rw[f,F] at X;injection X with X;cases X;exact D.wf _ _ l
  have:=g.aw;omega
 intro F X ats T g3 ⟨sA3,JU⟩ AE OH hno;have l:ay aR h X:=L.trans' g3 ai (λx G e=>av g.aw);have ux:=g3.get L.ok jg ab;have CJ:=g3.get L.ok tM ab;have L:=W.cm D l;have Qx:∀u:Nat,u<cz ys->mV ats u=aV (nI b) u:=λu hu=>by unfold mV;simp only[E0];rcases d.place u with⟨i,h1,w,_⟩|⟨h1,w⟩;rw[OH i u h1,w];rfl;rw[hno u hu h1,w];rfl
 have k1:bY F 1=O.v:=T.at (au N);have k2:bU F 2 h.aw:=T.at J;have k4:bU F 4 (h.aw+1):=T.at J;have k5:bY F 5=dB (Z ⟨dA,0,K⟩) (cz ys) (cz ys):=T.at J;simp[aC] at ux;simp[k2,ux];refine bh.call (V:=λv h'=>ay aR X h'/\∃n ws,v=dB (Z ⟨n,0,K⟩) (cz ys) (cz ys)/\lx encI X.aw h' n ws (Edge.df (cw (ys.map YB.g)))) (by simpa [aC] using mh l.ok (name:=name) (p:=p) (r:=r) L.view E.ends) ?_;rintro _ h4⟨F,d8,ws,rfl,w8⟩;have n:=l.trans F;have T:=F.get l.ok ux;have Il:=F.get l.ok CJ;have X4:=F.get l.ok JU;have W4:=W.cm D n;have L:cz (ys.map YB.g)=cz ys:=AZ ..;have qW:cz (cw (ys.map YB.g))=cz ys:=by simp[cw]
 have RW:=aiM E.tok;rw[qW] at RW;have ln1:=g.aw;have g:=g2.aw;have g:=g3.aw;have g:=l.aw;have l:=F.aw;have yg:∀ {k:Nat} {y:YB},ys[k]?=Z y->(ys.map YB.g)[k]?=Z y.g:=λh=>by rw[gM,h];rfl
 have U:∀ {k:Nat} {pk:List Int},(Edge.df (cw (ys.map YB.g)))[k]?=Z pk->pk=aN (ys.map YB.g) k:=fun {k pk} h=>by have H:=(cY.mp h).1;rw[Edge.lM,qW] at H;rw[E.ahead ab] at h;cases h;rfl
 have F:KZ h4 (cK B ys) (cz ys) dA d8 X.aw ats ws (Edge.df (cw (ys.map YB.g))):=⟨ab,⟨sA3,X4⟩,AE,w8,P dA ab,λt S=>av (W.mq D S),RW,λX l=>by have⟨k,H⟩:=iG l;rw[U H];have:=mP (ys.map YB.g) k;omega⟩;simp[k1,N];refine Tj (R:=h.aw+1) n.ok F rfl ab W4 T (P _ ab) d rfl (V.cm D n) κO (λy l=>?_) (λk y pk H X=>?_) (λy l=>?_) (au k2) (au k4) (au k5) J (au N) J J (by simp[cM]) ?_;have V:=KA (f:=YB.g) l;refine⟨by have:cz y.to<=2:=E.two V;omega,λF N=>?_⟩;have:=E.to _ V F N;rw[L] at this;omega
 rw[U X];refine⟨d.key L Qx,λq N=>?_⟩;exact E.rows k y.g (yg H) q.1 (kC.2 ⟨q,N,Q⟩);have:=E.pl _ (KA (f:=YB.g) l);simp[YB.g] at this;omega;intro N X zs C A q2 q4 g I κA5 N abT ahx H5;have F:=I.g.get n.ok T (P _ ab);have T:=I.g.get n.ok Il (P _ ab);simp at g;simp[q2,q4,g,F,T];have g:=I.g.aw;have aEK:∀(i:Nat)(x:YB),C[i]?=Z x->∃k,b[i]?=Z k/\zs[k]?=Z x:=by
  intro i x G;have g:i<cz b:=by rw[<-abT];exact(cY.mp G).1
  exact⟨_,jh g,ahx i _ x (jh g) G⟩
 have⟨WA,P,xA⟩:=I.w.sel (eO N) (λi=>(b[i]?).getD 0) (λi x G=>by
  have⟨k,h1,w⟩:=aEK i x G;rw[h1];exact w) (λi j g w e=>by
  have w:i<cz b:=ab
  have hj':j<cz b:=ab
  rw[jh w,jh hj'] at e;exact(eX d.nd).1 e) (λc m=>by
  have:=LG N m;refine⟨ab,?_⟩;rcases N with⟨_,f⟩|⟨t,s,f,S,_,_⟩;simp at f;simp[dt,f] at m;simp at f;rw[cD f.1] at m;cases m;exact κA5 _ (fH f.1))
 have f:cV h X n0 B ys A C:=by refine((cV.refl W D).cm n).step I.g (λc m=>jZ m) ⟨WA,λc m=>?_,λh=>xA (I.x h)⟩;rcases P c m with h|h;exact I.s c h;exact kd (LG N h)
 have n:∀c,cK A C c->c≠h.aw/\c≠h.aw+1:=λc m=>by
  rcases P c m with h|h;rcases I.s c h with h|h;have:=W.mq D h;omega;omega
  have:=LG N h;omega
 have N:=((ay.refl I.g.ok).put (S:=λx=>x=h.aw\/x=h.aw+1) (off:=3) (vs:=[bf A.a A.l A.c]) ⟨_,F⟩ (kd (jZ Q))).put (b:=h.aw+1) (off:=0) (cs:=[cW ⟨⟨[]⟩⟩,aA ec 0,aA ec 0,bf K 0 0]) (o:=0) (vs:=[cW name,aA ec p,aA ec r,bf A.a A.l A.c]) ⟨sR,au T⟩ (kd (kd Q));generalize put (put X _ _ _ _ _) _ _ _ _ _=h6 at N⊢;refine⟨A,C,by simp[aC],f.go N (λc m=>⟨ab,λh=>av (n c h)⟩),?_⟩;unfold bu;refine BT λi=>?_;rw[gM,gM];rcases Kz i (cz b) with g|g
 .have⟨k,H⟩:=aQ b i g;have⟨x,G⟩:=aQ C i;have g:=d.lt k (cO H);have⟨y,l⟩:=aQ ys k g;have⟨pk,g,e⟩:=H5 k y x l (ahx i k x H G) (cO H);have V:=KA (f:=YB.g) (cO l);rw[G,H,Eo,Eo,e,U g,yg l];congr 1;refine aaa (λa l=>?_) (λa l=>?_)
  obtain⟨u,rfl,z,G,_⟩:=cJ.1 l;exact Qx u (by rw[<-L];exact(cY.mp G).1);have:=E.to _ V a l;rw[L] at this;obtain⟨u,rfl⟩:∃u:Nat,a=u:=⟨a.toNat,ab⟩;exact Qx u ab
 rw[xU ab,xU ab];rfl
def VH(F:SV)(b o:Nat)(m:List (Bool×Int))(l:Nat)(h:az)(v:aa)(h':az):Prop:=
 ∃d:SV,v=d.v/\d.a=F.a/\d.l=l/\d.c=F.c/\ay (· =b) h h'/\∃u,h'.tr.get b=Z (.bZ (cZ.flat m) cd o u)
def zr(r:List (Bool×Int))(j:Nat)(v:Bool×Int):List (Bool×Int):=r.take j++[v]++r.drop j
def je(r:List (Bool×Int))(k:Nat):List (Bool×Int):=r.take k++r.drop (k+1)
def qw{r:List (Bool×Int)}(h:k<cz r):cz (je r k)=cz r-1:=by simp[je];omega
def Na{r:List (Bool×Int)}(h:j<=cz r):cz (zr r j v)=cz r+1:=by simp[zr];omega
def adO(p:cu h){F:SV}{b o s:Nat}{z:Bool×Int}(a:F.a=Z ⟨b,0,K⟩)(E:F.l=cz row)(c:F.c=cz (row++z::g))(l:o=0\/o=2)(w:h.tr.get b=Z (.bZ (cZ.flat (row++z::g)) cd o s)){x m U G W:Nat}{C:List aa}{y:Bool×Int}(q:h.tr.get x=Z (.bZ C cd G W))(t:cy h x m 2=Z [dC y.1,fc ft y.2])(D:b≠x)(i:Nat)(I:i<=cz row)(f:F.l<1000000):aY FF 166 [F.v,fc ft i,dB (Z ⟨x,m,K⟩) 1 U] h (VH F b o (zr row i y++g) (cz row+1) h):=by
 have⟨vs,d⟩:∃vs,vs=row++z::g:=⟨_,Q⟩;rw[<-d] at c w;have G:cz vs=cz row+(cz g+1):=by rw[d];simp
 have j:Nat.ble i F.l=ck:=by simpa [E] using I
 have v:Nat.blt F.l F.c=ck:=by simp;omega
 have k:(an o 2||an o 0)=ck:=by rcases l with rfl|rfl<;>rfl
 have n:Nat.ble (0+F.c*2) (cz (cZ.flat vs))=ck:=by rw[cZ.dT,c];simp
 have l:an b x=cd:=by cases e:an b x;rfl;exact absurd (sq e) D
 have G:Nat.blt F.l 1000000=ck:=aj f
 have f:vs.take i++[y]++(vs.drop i).take (F.l-i)=zr row i y:=by unfold zr;rw[d,ns,gB,ns,show i-cz row=0 by omega,uc,E,rf];simp[tK]
 have r:Go.AI.aM (cZ.flat vs) [dC y.1,fc ft y.2] 0 i F.l 2=cZ.flat (vs.take i++[y]++(vs.drop i).take (F.l-i)):=by have c:=cZ.jO vs i;have M:=cZ.pW vs i;have H:=cZ.jO (vs.drop i) (F.l-i);simp only[yF] at c M H;unfold Go.AI.aM;rw[lV,c,IV,M,H,cZ.fK,cZ.fK,agH]
 have c:aX (cZ.flat vs) 0 (Go.AI.aM (cZ.flat vs) [dC y.1,fc ft y.2] 0 i F.l 2)=cZ.flat (zr row i y++g):=by have:=Ic cZ vs (vs.take i++[y]++(vs.drop i).take (F.l-i)) 0;rw[Nat.zero_mul,List.take_zero,List.nil_append,IV,<-r] at this;rw[this,f,Na I];congr 2;rw[d,gB];simp
 have d:L6 2 [F.v,fc ft i,dB (Z ⟨x,m,K⟩) 1 U] h=Z (dB (Z ⟨b,0,K⟩) (F.l+1) F.c,{put h b 0 (cZ.flat vs) (Go.AI.aM (cZ.flat vs) [dC y.1,fc ft y.2] 0 i F.l 2) o with aw:=h.aw+8}):=by show L6 2 [dB F.a F.l F.c,fc ft (.ofNat i),dB (Z ⟨x,m,K⟩) 1 U] h=_;rw[a];simp only[L6,w,q,j,v,k,n,l,G,Nat.beq_refl,Bool.and_true,Bool.not_false,if_true,t]
 refine aY.run qT d ⟨⟨F.a,F.l+1,F.c⟩,au a,Q,by rw[E],Q,?_,h.clock,by rw[<-c];simp[put,Tr.bN]⟩;have b:=bc (off:=0) (vs:=Go.AI.aM (cZ.flat vs) [dC y.1,fc ft y.2] 0 i F.l 2) p w;exact⟨pe _ _,b.clock,λu h1 V=>b.same u h1 V,⟨λu w h'=>OD (b.ok.wf u w h') (pe _ _),b.ok.st⟩⟩
def ags(D:cu h){b o s c l k a N:Nat}(d:c=cz vs)(d:l<=c)(m:h.tr.get b=Z (.bZ (cZ.flat vs) cd o s))(d:k<l)(d:a=k+1)(d:N=l-1)(d:l<1000000):∃u,js h [dC cd,fc ft 0] 16 cd (dB (Z ⟨b,0,K⟩) k c) (dB (Z ⟨b,a*2,K⟩) (l-a) (c-a))=Z (dB (Z ⟨b,0,K⟩) N c,u)/\ay (· =b) h u/\∃s,u.tr.get b=Z (.bZ (cZ.flat (vs.take k++(vs.drop a).take (l-a)++vs.drop (k+(l-a)))) cd o s):=by
 have d:cz ((vs.drop a).take (l-a))=l-a:=by simp;omega
 have e:bp cZ h (dB (Z ⟨b,a*2,K⟩) (l-a) (c-a)) ((vs.drop a).take (l-a)):=by refine⟨_,_,by rw[d],kd ⟨b,a*2,_,_,_,_,Q,m,?_,?_⟩⟩;rw[d,cZ.dT,yF];omega;have G:=cZ.pW vs a;have C:=cZ.jO (vs.drop a) (l-a);simp only[yF] at G C;rw[d,yF,G,C]
 unfold js;rw[HN (E:=cZ) (z:=[dC cd,fc ft 0]) Q e,d];dsimp only;rcases EK (l-a) with e|e
 .refine⟨h,?_,.refl D,s,by rw[e];simpa using m⟩;have:N=k:=ab
  have q:k<=c:=ab
  rw[e,this];simp[eI,q]
 .have⟨M,w⟩:∃M,M=l-a:=⟨_,Q⟩;rw[<-w] at e d⊢;have H:roomy N=ck:=by simp[roomy];omega
  have V:roomy (N*16)=ck:=by simp[roomy];omega
  have I:N<=c:=ab
  have G:¬M=0:=ab
  have W:k+M=N:=ab
  have e:cz (cZ.flat ((vs.drop a).take M))=M*2:=by rw[cZ.dT,d,yF]
  have U:k*2+M*2<=cz vs*2:=ab
  refine⟨put h b (k*2) (cZ.flat vs) (cZ.flat ((vs.drop a).take M)) o,?_,bc D m,h.clock,?_⟩;simp[eI,H,V,I,G,m,e,U,W];rw[aZ];have:=Ic cZ vs ((vs.drop a).take M) k;rw[d] at this;simp only[yF] at this;rw[this]
def Qf(c:cu h){F:SV}{b o s:Nat}(M:F.a=Z ⟨b,0,K⟩)(p:F.l=cz row)(I:F.c=cz (row++g))(l:o=0\/o=2)(u:h.tr.get b=Z (.bZ (cZ.flat (row++g)) cd o s))(k:Nat)(w:k<cz row)(j:F.l<1000000):aY FF 167 [F.v,fc ft k,fc ft ((k:Int)+1)] h (VH F b o (je row k++(cd,0)::g) (cz row-1) h):=by
 obtain⟨vs,d⟩:∃vs,vs=row++g:=⟨_,Q⟩;rw[<-d] at I u;have a:cz vs=cz row+cz g:=by rw[d];simp
 obtain⟨a,H⟩:∃a,a=k+1:=⟨_,Q⟩;obtain⟨N,q⟩:∃N,N=F.l-1:=⟨_,Q⟩;have e:((k:Int)+1)=(a:Int):=ab
 rw[e];have C:F.l<=F.c:=ab
 have e:a<=F.l:=ab
 have r:k<=a:=ab
 have f:((k:Int)==(a:Int))=cd:=by simp;omega
 have n:a<=F.c:=ab
 have i:k<=F.l:=ab
 have G:k<=F.c:=ab
 refine aY.of qS ?_;unfold jo;have E:(an o 0||an o 2)=ck:=by rcases l with rfl|rfl<;>rfl
 simp[M,e,r,f,n,i,G,E,C,u];obtain⟨W,i,G,n,D⟩:=ags (N:=N) (bk c).ok I C (aj u) ab H q j;refine mn i ?_;have U:vs.take k++(vs.drop a).take (F.l-a)++vs.drop (k+(F.l-a))=je row k++(row++g).drop N:=by unfold je;rw[d,ns,gB,ns,show k-cz row=0 by omega,show a-cz row=0 by omega,show k+(F.l-a)=N by omega,uc,p,rf,H];simp[tK]
 rw[U] at D;have a:(je row k++(row++g).drop N).set N (cd,0)=je row k++(cd,0)::g:=by
  have p:(row++g).drop N=(row++g)[N]'(by simp;omega)::(row++g).drop (N+1):=List.drop_eq_getElem_cons _;have h1:(row++g).drop (N+1)=g:=by rw[gB,show N+1-cz row=0 by omega,Cy ab];rfl
  rw[List.set_append,bM (by rw[qw w];omega),qw w,show N-(cz row-1)=0 by omega,p,List.set_cons_zero,h1]
 have p:cz (je row k++(row++g).drop N)=cz vs:=by rw[X0,qw w];simp;omega
 have d:N<=F.l:=ab
 have V:N<=F.c:=ab
 have i:F.l-N=1:=ab
 have w:N*2+2<=cz (cZ.flat (je row k++(row++g).drop N)):=by rw[cZ.dT,p,yF];omega
 have p:ky [br cd,aA ec 0] 1=[dC cd,fc ft 0]:=Q;have m:=cZ.jV (je row k++(row++g).drop N) N (cd,0) ab;simp only[yF,Cz] at m;rw[a] at m;generalize cZ.flat (je row k++(row++g).drop N)=cs at*;simp[E,d,V,i,w,C,D,p];have p:=bc (off:=N*2) (vs:=[dC cd,fc ft 0]) G.ok D;exact⟨⟨Z ⟨b,0,K⟩,N,F.c⟩,J,M.symm,by show N=_;omega,Q,((bk c).cm.trans G).trans p,W.clock,by rw[aZ,m]⟩
def PA(pk:List Int)(cg now:Int)(row:List (Bool×Int)):List (Bool×Int):=
 zr (je row (aV pk cg).toNat) (cz (pk.filter λa=>decide (a<now)&&a !=cg)) ((row[(aV pk cg).toNat]?).getD (cd,0))
def aeJ(a:cu h){B:SV}(W:FZ h n0 B ys)(vo:n0<=h.aw){F X1 X2 y i k j M:Nat}(b:eR h F (aC name p rg B) M)(X:¬cK B ys F){r:YB}(H:ys[y]?=Z r)(n:r.ps[i]?=Z q)(d:di h X1 [fc ft q.1.dst,q.2.v])(I:di h X2 [dC v.1,fc ft v.2])(n2:¬cK B ys X2)(l:k<cz q.1.row)(N:j+1<=cz q.1.row)(N:cz q.1.row<1000000)(N:cz r.ps<1000000)(f0:bU e 0 F)(f8:bC e 8 y)(f9:bC e 9 k)(f10:bC e 10 j)(f13:bC e 13 i)(f14:bU e 14 X1)(N:bU e 15 X2)(C:∀A h' V,aG azu e A->cV h h' n0 B ys B (ys.set y {r with ps:=r.ps.set i (⟨q.1.dst,zr (je q.1.row k) j v⟩,V)})->z .normal A h'):aK FF TQ e h z:=by
 have⟨V,d⟩:=d;have⟨V,I⟩:=I;have R:=W.at H;have V:=(cY.mp H).1;have ao2:=(cY.mp n).1;obtain⟨bB,A,A,A,A,O,w,w,w,G⟩:=W.A.el H;have G:=w 0 1 ag;simp[-ax] at G;have w:=W.A.len;have f:=b;simp[aC] at f;rw[A,w] at f;have apA:=a.st _ _ _ _ _ b;have ZS:=a.st _ _ _ _ _ O;have zq:=a.st _ _ _ _ _ I;have oF:=a.cg b;have oX2:=a.cg I;obtain⟨hVl,⟨_,_,t⟩|⟨b,o,s,g,w,T,x,L⟩⟩:=R.ps q (cO n)
 rw[t] at l;simp at l;have t:r.loc (.R i)=Z b:=by rw[YB.jr n];exact cD w
 have S:cK B ys b:=⟨Z (y,.R i),by rw[cC H];exact t⟩;have fW:=R.P.len;have m:=ch ((k:Int)+1) ab ab;simp at d;rw[w] at d;have P:o=0\/o=2:=aj L
 unfold TQ;simp[f0,f8,f9,f10,f13,f14,N,f,V,G,d,I,m,-ax,aB f,aB d,aB I,aI,bj,oF,oX2];refine bS.cut (λd=>ay aR h d/\h.clock<=d.clock/\d.tr.get h.aw=Z (.bZ [dC v.1,fc ft v.2] cd 0 0)) ?_ ?_;exact⟨(bk a).trans (aO (bk a).ok _ _),Nat.le_succ _,J⟩;rintro d⟨u,G,I6⟩;have G:=u.get a x;have Zn:=u.get a O;have V:=u.get a f;have aBv:=u.get a I;refine bS.call (V:=VH q.2 b o (je q.1.row k++(cd,0)::g) (cz q.1.row-1) d) (by simpa [w] using Qf u.ok (F:=q.2) w hVl (aj T) P G k l ab) ?_;rintro _ d⟨O,rfl,G,T,T,D,T,T⟩;have dl:=qw l;have f:¬h.aw=b:=λe=>av (a.wf _ _ x)
 have nb2:¬X2=b:=λe=>n2 (e▸S);have x:¬F=b:=λe=>X (e▸S);have B:¬bB=b:=λe=>by have:=W.tQ K (Z (y,.R i)) b (by rw[<-e];exact cD A) (by rw[cC H];exact t);cases this
 have l:=D.get u.ok I6 f;have S:=D.get u.ok aBv nb2;have A:=D.get u.ok V x;have X:=D.get u.ok Zn B;simp[N,S,l,zq];have S:cy d h.aw 0 2=Z [dC v.1,fc ft v.2]:=by rw[dx l J];rfl
 refine bS.call (V:=VH O b o (zr (je q.1.row k) j v++g) (cz (je q.1.row k)+1) d) (aj (adO D.ok (F:=O) (by rw[G,w]) ab (by simp[dl];omega) P T l S (cE f) j ab ab)) ?_;rintro _ f⟨d,rfl,S,l,l,l,s4,hb4⟩;have V:=l.get D.ok A x;have KC:=l.get D.ok X B;have O:ay (· =b) h f:=(u.cm.trans D).trans l;have N:∀c,dt r.P=Z c->c≠b:=λc U e=>by have:=W.KO H .P (.R i) b (by rw[<-e];exact U) t;cases this
 obtain⟨B,E,x,X,A,P,X,T,X,VX⟩:=(R.P.go a O (λc U e=>N c e U)).el n;have lP:r.loc .P=Z B:=cD A;have nPb:=N B (cD A);have N:=T 1 1 ag;simp at N;have r:ay (· =B) f (put f B (i*2+1) E [dB d.a d.l d.c] x):=bc l.ok P;have X:=VX (⟨q.1.dst,zr (je q.1.row k) j v⟩,d) 1 [dB d.a d.l d.c] J rfl (put f B (i*2+1) E [dB d.a d.l d.c] x) ⟨_,aZ _ _ _ _ _ _⟩;have T:cz (zr (je q.1.row k) j v)=cz (je q.1.row k)+1:=Na ab;have T:eM cZ (put f B (i*2+1) E [dB d.a d.l d.c] x) d (zr (je q.1.row k) j v):=⟨ab,kd ⟨b,o,s4,g,by rw[S,G,w],ab,r.get l.ok hb4 (cE nPb),L⟩⟩;simp[V,KC,apA,ZS,A,fW,ao2,P,N];refine C _ _ d ?_ ((cV.refl W a).row vo H n (O.trans' r (λc _ e=>jZ ⟨.R i,kd Q,by rw[e];exact t⟩) (λc _ e=>jZ ⟨.P,jZ Q,by rw[e];exact lP⟩)) X T (λc U=>jZ ?_))
 .repeat (refine aG.set ?_)
  exact aG.refl _ _
 rw[cD w];have T:dt d=Z b:=cD (by rw[S,G,w]);rw[<-U,T]
def azx(h:az)(n0:Nat)(B:SV)(ys:List YB)(y:Nat)(r:YB)(f:List (Bool×Int)->List (Bool×Int))(e:Env)(m:Nat)(a:Env)(h':az):Prop:=
 ∃(i:Nat) (d:List (GP×SV)),m=cz r.ps-i/\i<=cz r.ps/\cz d=i/\aG asw e a/\bC a 69 i/\cV h h' n0 B ys B (ys.set y {r with ps:=d++r.ps.drop i})/\d.map (·.1)=((r.ps.map (·.1)).take i).map λp=>⟨p.dst,f p.row⟩
def aeK(U:cu h){B:SV}(W:FZ h n0 B ys)(O:n0<=h.aw){F y k j l M:Nat}(O:eR h F (aC name p rg B) M)(A:¬cK B ys F){r:YB}(f:ys[y]?=Z r)(L:∀q∈r.ps,cz q.1.row=l)(X:k<l)(X:j+1<=l)(X:l<1000000)(X:cz r.ps<1000000)(X:bU e 0 F)(t:bC e 8 y)(n:bC e 9 k)(S:bC e 10 j)(P:bY e 67=r.P.v)(b:bC e 68 (cz r.ps))(w:bC e 69 0)(C:∀d h' a,aG asw e d->cV h h' n0 B ys B (ys.set y {r with ps:=a})->a.map (·.1)=(r.ps.map (·.1)).map (λp=>⟨p.dst,zr (je p.row k) j ((p.row[k]?).getD (cd,0))⟩)->z (.exit 4) d h'):aK FF (.loop uG) e h z:=by
 have N:=(cY.mp f).1;refine aK.loop (azx h n0 B ys y r (λrow=>zr (je row k) j ((row[k]?).getD (cd,0))) e) ?_ (n:=cz r.ps) ⟨0,[],Q,ab,Q,aG.refl _ _,w,by rw[show ys.set y {r with ps:=[]++r.ps.drop 0} =ys from Bo f];exact .refl W U,J⟩;rintro m d h'⟨i,d,rfl,f,f,a,w,T,s⟩;have g:=T.g;have G:=g.ok;have q0:=a.at X;have q8:=a.at t;have t:=a.at n;have v8:=a.at S;have u:=a.at P;have D:=a.at b;unfold uG;by_cases n:i<cz r.ps
 .have wi:=ch ((i:Int)+1) ab ab;have⟨q,H⟩:=aQ r.ps i n;have b:=fC (qs:=r.ps) f;rw[H] at b;have P:=L q (cO H);have⟨o,E⟩:∃o:YB,o= {r with ps:=d++r.ps.drop i} :=⟨_,Q⟩;rw[<-E] at T;have L:(ys.set y o)[y]?=Z o:=by rw[fO,bK Q,bK N]
  have tN:o.ps[i]?=Z q:=by rw[E];exact b
  have R:=T.w.at L;have RP:eM jf h' r.P (d++r.ps.drop i):=by have:=R.P;rw[E] at this;exact this
  have N:=R.ps q (cO tN);have⟨v,X⟩:=aQ q.1.row k;obtain⟨S,P,P,P,P,hb,qm,_,x,_⟩:=N.el X;have N:=x 0 2 ag;obtain⟨x,x,x,x,jk,x,x,x,Pv,x⟩:=RP.el b;have x:=Pv 0 2 ag;simp[-ax] at x N;have b:=RP.len;have KI:cz (d++r.ps.drop i)=cz r.ps:=by simp;omega
  simp at u;rw[jk,b,KI] at u;have b:=G.cg hb;have V:¬S=h'.aw:=av b.lt
  have ZH:¬S=h'.aw+1:=av b.lt
  simp[u,D,w,t,n,qm,x,N,P,b,V,ZH,-ax,aH,cn,bj,aI];refine aK.cut (λI=>ay aR h' I/\(di I h'.aw [fc ft q.1.dst,q.2.v])/\di I (h'.aw+1) [dC v.1,fc ft v.2]) ?_ ?_
  .have b:¬h'.aw=h'.aw+1:=ab
   exact⟨((ay.refl G).var _ _).var _ _,⟨h'.clock,by simp[aX,P,b]⟩,⟨h'.clock+1,by simp[aX]⟩⟩
  rintro I⟨b,x,S⟩;have P:=g.aw;have P:=U.wf _ _ O;have P:∀c,h'.aw<=c->¬cK B (ys.set y o) c:=λc N h=>av (T.w.mq G h)
  have N:¬cK B (ys.set y o) F:=λh=>(T.s F h).elim A ab;have T2:=T.cm b;refine aeJ b.ok T2.w (av T2.g.aw) (F:=F) (X1:=h'.aw) (X2:=h'.aw+1) (y:=y) (i:=i) (k:=k) (j:=j) (v:=v) (q:=q) (b.get G (g.get U O A)) N L tN x S (P _ ab) ab ab ab (by rw[E];show(d++r.ps.drop i).length<_;omega) (au q0) (au q8) (au t) (au v8) J J J ?_;intro t t b t P;have x:=t.at (t:=69) (ak w);have G:=T2.trans P;rw[xh] at G;have P:({o with ps:=o.ps.set i (⟨q.1.dst,zr (je q.1.row k) j v⟩,b)} :YB)= {r with ps:=(d++[(⟨q.1.dst,zr (je q.1.row k) j v⟩,b)])++r.ps.drop (i+1)} :=by rw[E];dsimp only;rw[set_drop f H]
  rw[P] at G;simp[x,wi];refine⟨cz r.ps-(i+1),ab,i+1,d++[(⟨q.1.dst,zr (je q.1.row k) j v⟩,b)],Q,n,au f,?_,J,G,?_⟩
  .refine aG.set (aG.set (aG.trans ?_ (t.cU)))
   exact aq
  rw[aL,s,kh,gM,H,aL];simp[X]
 .have:i=cz r.ps:=ab
  subst this;rw[bE,Bx] at T;simp[D,w];exact C _ _ d (aG.set a) T (by rw[s,tK J])
def Ku(cg now:Int)(l:List Int):Nat:=cz (l.filter λa=>decide (a<now)&&a !=cg)
def asx(h:az)(a:List Int)(cg now:Int)(e:Env)(m:Nat)(b:Env)(h':az):Prop:=
 ∃t:Nat,m=cz a-t/\t<=cz a/\aG RnC e b/\bC b 45 t/\bC b 10 (Ku cg now (a.take t))/\h'=h
def aaJ{W:SV}{p:List Int}(v:bp encI h W.v p)(b:cz p<1000000)(X:bC e 1 cg)(T:bC e 2 now)(U:bC e 10 0)(q:bY e 43=W.v)(l:bC e 44 (cz p))(L:bC e 45 0)(C:∀M,aG RnC e M->bC M 10 (Ku cg now p)->z (.exit 2) M h):aK FF (.loop uH) e h z:=by
 have i:W.l=cz p:=by have⟨a,t,e,_⟩:=id v;simp at e;exact e.2.1
 refine aK.loop (asx h p cg now e) ?_ (n:=cz p) ⟨0,Q,ab,aG.refl _ _,L,U,Q⟩;rintro m M h'⟨t,rfl,s,P,o,D,rfl⟩;have V:=P.at X;have g:=P.at T;have d:=P.at q;have b:=P.at l;unfold uH;by_cases H:t<cz p
 .have O:=ch ((t:Int)+1) ab ab;have G:Ku cg now (p.take t)<=t:=qN (IW _ _) (by simp;omega);have S:=ch ((Ku cg now (p.take t):Int)+1) ab ab;have⟨x,l⟩:=aQ p t H;have⟨y,c,B,s,_,_,k⟩:=v.read l;have T:=k 0 1 ag;simp[-ax] at T s d;rw[s.1,i] at d;have u:Ku cg now (p.take (t+1))=Ku cg now (p.take t)+(if decide (x<now)&&x !=cg then 1 else 0):=by unfold Ku;rw[kh,l,dQ,X0];congr 1;cases A:(decide (x<now)&&x !=cg)<;>simp[List.filter_cons,A]
  have w:∀(E:Env),aG RnC e E->bC E 45 ((t:Int)+1)->bC E 10 (Ku cg now (p.take (t+1)))->∃m,m<cz p-t/\asx h' p cg now e m E h':=λE l s q=>⟨cz p-(t+1),ab,t+1,Q,H,l,aj s,q,Q⟩;by_cases G:x<now
  .by_cases q:x=cg
   .have I:(x !=cg)=cd:=by simp[q]
    rw[I] at u;simp at u;simp[V,g,d,b,o,D,H,T,G,I,O,-ax];refine w _ ?_ J (by simp[D,u])
    exact aq
   .have I:(x !=cg)=ck:=by simp[q]
    rw[I] at u;simp[G] at u;simp[V,g,d,b,o,D,H,T,G,I,O,S,-ax];refine w _ ?_ J (au u)
    exact aq
  .simp[G] at u;simp[V,g,d,b,o,D,H,T,G,O,-ax];refine w _ ?_ J (by simp[D,u])
   exact aq
 .have:t=cz p:=ab
  subst this;rw[mO] at D;simp[b,o];exact C _ (aG.set P) (au D)
def Et(pk:List Int)(cg now:Int)(b:GB):GB:= {b with bz:=b.bz.map λp=>⟨p.dst,PA pk cg now p.row⟩}
def NU(bs:List GB)(cg now:Int)(to:List Int):List GB:=bs.mapIdx λi b=>if(i:Int)∈to then Et (aN bs i) cg now b else b
def H4{b:GB}(h:bs[i]?=Z b):(NU bs cg now to)[i]?=Z (if(i:Int)∈to then Et (aN bs i) cg now b else b):=by unfold NU;rw[dk,h];rfl
def NV(bs:List GB)(cg now:Int)(to:List Int):cz (NU bs cg now to)=cz bs:=by simp[NU]
def aeH{i u:Nat}{b:GB}(h:to[i]?=Z (u:Int))(d:bs[u]?=Z b):NU bs cg now (to.take (i+1))=(NU bs cg now (to.take i)).set u (Et (aN bs u) cg now b):=by
 refine BT λm=>?_;rw[fO];have o:=(cY.mp d).1;by_cases e:u=m
 subst e;rw[bK Q,bK (by rw[NV];exact o),H4 d,bK (by rw[kh,h];simp)]
 .rw[bM e];unfold NU;rw[dk,dk];congr 1;funext b';have:((m:Int)∈to.take (i+1))↔((m:Int)∈to.take i):=by rw[kh,h];simp;omega
  simp only[this]
def azy(h1:az)(n0:Nat)(B:SV)(ys:List YB)(o:aa)(F:Nat)(cg now:Nat)(T:SV)(to:List Int)(m:Nat)(e:Env)(h':az):Prop:=
 ∃(i:Nat) (d:List YB),m=cz to-i/\i<=cz to/\bU e 0 F/\bC e 1 cg/\bC e 2 now/\bY e 6=o/\bY e 28=T.v/\bC e 29 (cz to)/\bC e 30 i/\cV h1 h' n0 B ys B d/\d.map YB.g=NU (ys.map YB.g) cg now (to.take i)/\∀(k:Nat)(y z:YB),ys[k]?=Z y->d[k]?=Z z->z= {y with ps:=z.ps}
def TR(f:cu h){B:SV}(W:FZ h n0 B ys)(b:n0<=h.aw)(hF:eR h F (aC name p rg B) M)(nF:¬cK B ys F){cg now:Nat}{b:YB}(U:ys[cg]?=Z b)(E:EB (ys.map YB.g)):aY FF 196 [eU (Z ⟨F,0,K⟩),fc ft cg,fc ft now] h (λ_ h'=>∃w,cV h h' n0 B ys B w/\w.map YB.g=NU (ys.map YB.g) cg now b.to/\∀(k:Nat)(y z:YB),ys[k]?=Z y->w[k]?=Z z->z= {y with ps:=z.ps}):=by
 have n:=(cY.mp U).1;have x:=W.at U;have S:=x.T.len;have x:cz (ys.map YB.g)=cz ys:=AZ ..;have d:=E.n50;rw[x] at d;have d:∀ {k:Nat} {y:YB},ys[k]?=Z y->(ys.map YB.g)[k]?=Z y.g:=λh=>by rw[gM,h];rfl
 have I:=cO (d U);have Ta:b.to.Nodup:=E.nd I;have t:cz b.to<=2:=E.two I;have t:=hF;simp[aC] at t;refine aY.of Pc ?_;unfold EI;simp[t];refine bh.call (V:=λv h'=>ay aR h h'/\∃c ws,v=dB (Z ⟨c,0,K⟩) (cz ys) (cz ys)/\lx encI h.aw h' c ws (Edge.df (cw (ys.map YB.g)))) (by simpa [aC] using mh f (name:=name) (p:=p) (r:=rg) W.view E.ends) ?_;rintro _ h1⟨C,c,ws,rfl,G⟩;have O:=W.cm f C;have vH:=C.get f t;have Po:=C.get f hF;obtain⟨t,t,t,t,fD,t,t,t,T,t⟩:=O.A.el U;have t:=T 5 1 ag;simp[-ax] at t;have T:=O.A.len;rw[fD,T] at vH;simp[vH,n,t,S,-ax,aB vH];have t:(ys.map YB.g)=NU (ys.map YB.g) cg now (b.to.take 0):=by refine BT λm'=>?_;unfold NU;rw[dk];simp;rfl
 refine aK.loop (azy h1 n0 B ys (dB (Z ⟨c,0,K⟩) (cz ys) (cz ys)) F cg now b.T b.to) ?_ (n:=cz b.to)
  ⟨0,ys,Q,ab,J,J,J,J,au S,J,J,.refl O C.ok,t,λk y z a c=>by rw[a] at c;cases c;rfl⟩
 rintro m' t h'⟨i,w,rfl,t,q0,q1,q2,q6,t,O,H,T,n,HT⟩;have g:=T.g;have bD:=g.ok;have V:cz w=cz ys:=by have:=congrArg bW n;simp[NV] at this;exact this
 unfold BB;by_cases fI:i<cz b.to
 .have wi:=ch ((i:Int)+1) ab ab;have⟨V,r⟩:=aQ b.to i fI;have X:=E.to _ I V (cO r);rw[x] at X;obtain⟨u,rfl⟩:∃u:Nat,V=u:=⟨V.toNat,ab⟩;have V:u<cz ys:=ab
  have⟨x,X⟩:=aQ ys u V;have⟨L,N⟩:=aQ w u;have l:(u:Int)∉b.to.take i:=λP=>by
   have⟨j,A⟩:=iG P;rw[A0] at A;split at A;have a1:=(cY.mp A).2;have a2:=(cY.mp r).2;have:=(eX Ta).1 (a1.trans a2.symm);omega
   cases A
  have eg:L.g=x.g:=by
   have h1:(w.map YB.g)[u]?=Z L.g:=by rw[gM,N];rfl
   rw[n,H4 (d X),bM l] at h1;exact(gD h1).symm
  have QA:=E.ahead (k:=u) ab;have⟨pk,o⟩:∃pk,pk=aN (ys.map YB.g) u:=⟨_,Q⟩;rw[<-o] at QA;have⟨m,QC⟩:=aQ ws u (by rw[G.len];exact(cY.mp QA).1);have BQ:(cg:Int)∈pk:=by rw[o];exact cJ.2 ⟨cg,Q,b.g,d U,cO r⟩
  have apk:pk.Nodup:=by rw[o];exact jz _ _
  have l:cz pk<=2000:=by have:=mP (ys.map YB.g) u;rw[<-o] at this;omega
  have w':=G.grow C.ok g (λc G h=>av (W.mq f h));obtain⟨G,G⟩:=w'.bZ;have Q1:=Gn G QC;have G:∀ {k:Nat} {z:YB},w[k]?=Z z->∃y,ys[k]?=Z y:=fun {k z} h=>⟨_,jh (av ((cY.mp h).1))⟩;have⟨G,hzo⟩:=aQ w cg;have Zu:G.to=b.to/\G.T=b.T:=by
   refine⟨?_,by rw[HT cg b G U hzo]⟩;have h1:(w.map YB.g)[cg]?=Z G.g:=by rw[gM,hzo];rfl
   rw[n,H4 (d U)] at h1;have l:G.g.to=b.g.to:=by rw[<-gD h1];split<;>rfl
   exact l
  have hTs:bp encI h' b.T.v b.to:=by have:=(T.w.at hzo).T.sl;rw[Zu.1,Zu.2] at this;exact this
  obtain⟨G,G,G,X7,_,_,G⟩:=hTs.read r;have s:=G 0 1 ag;simp[-ax] at s X7 Q1;simp at t;rw[X7.1,S] at t;simp[q6,q1,t,O,H,fI,s,Q1,V,-ax];have G:bp encI h' m.v pk:=(w'.acc u m pk QC QA).sl;refine bh.call (V:=λv l=>l=h'/\∃k:Nat,v=fc ft k/\pk[k]?=Z (cg:Int)) (aj (J2 G ab BQ)) ?_;rintro _ l⟨rfl,k,rfl,hk⟩;have qm:=(cY.mp hk).1;have tj:aV pk cg=k:=Aq hk λm' P e=>by have a1:=(cY.mp hk).2;have a2:=(cY.mp e).2;have:=(eX apk).1 (a1.trans a2.symm);omega
  have UI:m.l=cz pk:=by have⟨a,cap,e,_⟩:=id G;simp at e;exact e.2.1
  simp[q6,q1,t,O,H,Q1,V,-ax];refine aaJ (cg:=cg) (now:=now) G ab (au q1) (au q2) J J (au UI) J ?_;intro G D k10;have A:Ku cg now pk<cz pk:=pv.2 ⟨cg,BQ,J⟩;have A:=D.at (t:=0) (ak q0);have k1:=D.at (t:=1) (ak q1);have k2:=D.at (t:=2) (ak q2);have k6:=D.at (t:=6) (ak q6);have k8:bY G 8=fc ft u:=D.at J;have k9:bY G 9=fc ft k:=D.at J;have k28:=D.at (t:=28) (ak t);have k29:=D.at (t:=29) (ak O);have k30:=D.at (t:=30) (ak H);have nF1:¬cK B w F:=λh=>(T.s F h).elim nF (by have:=f.wf _ _ hF;have:=C.aw;omega);have B:=g.get C.ok vH nF;have ux:=g.get C.ok Po nF;obtain⟨t,t,t,t,t,G,G,G,G,MT⟩:=T.w.A.el N;rw[fD] at t;cases t;have t:=G 0 1 ag;simp[-ax] at t;have R1:=T.w.at N;have G:=R1.P.len;simp[A,k8,B,V,t,G,-ax,aB B];have V:=cO (d X);have B:L.ps.map (·.1)=x.ps.map (·.1):=congrArg GB.bz eg;refine aeK bD T.w (by have:=C.aw;have:=g.aw;omega) (F:=F) (y:=u) (k:=k) (j:=Ku cg now pk) (l:=cz pk) ux nF1 N (λq t=>?_) qm ab ab ?_ (au A) (au k8) (au k9) (au k10) (au G) J J ?_
  .have P:q.1∈x.g.bz:=by show q.1∈x.ps.map (·.1);rw[<-B];exact kC.2 ⟨q,t,Q⟩
   rw[E.rows u x.g (d X) q.1 P,o]
  have:=E.pl _ V;have l:=congrArg bW B;simp at l;simp[YB.g] at this;omega
  intro l l l B T4 P;have V:=B.at (t:=0) (ak A);have m1:=B.at (t:=1) (ak k1);have m2:=B.at (t:=2) (ak k2);have G:=B.at (t:=6) (ak k6);have x:=B.at (t:=28) (ak k28);have t:=B.at (t:=29) (ak k29);have A:=B.at (t:=30) (ak k30);simp[A,wi];refine⟨cz b.to-(i+1),ab,i+1,w.set u {L with ps:=l},Q,fI,au V,au m1,au m2,au G,by simp[x,X7.1,S],au t,J,T.trans T4,?_,λk y z a c=>?_⟩
  rw[cL,n,aeH r (d X),<-eg,<-o];congr 1;unfold Et PA YB.g;simp only[tj,E0];rw[P];rfl
  .rw[fO] at c;by_cases e:u=k;subst e;rw[bK Q,bK ab] at c;cases c;have:=HT u y L a N;rw[this]
   rw[bM e] at c;exact HT k y z a c
 .have:i=cz b.to:=ab
  subst this;rw[mO] at n;simp[O,H];exact⟨w,((cV.refl W f).cm C).trans T,n,HT⟩
def uw:GB:=⟨[],[],1,(cd,0),[]⟩
structure dE(bs:List GB)(b t:Nat)(B T:GB):Prop where
 hb:bs[b]?=Z B
 ht:bs[t]?=Z T
 k2:B.kind=2
 to:B.to=[(t:Int)]
 ne:t≠b
 ph:T.bz=[]
 one:cz (aN bs t)<=1
def dU(bs:List GB)(b t:Nat)(B T:GB)(i:Nat)(X:GB):GB:=
 if i=t then uw else if i=b then⟨(if(i:Int)∈T.to then Et (aN bs i) t b X else X).bz,B.list++T.list,T.kind,T.on,T.to⟩ else if(i:Int)∈T.to then Et (aN bs i) t b X else X
def cG(bs:List GB)(b t:Nat)(B T:GB):List GB:=bs.mapIdx λi X=>dU bs b t B T i X
def iq{b t:Nat}{B T X:GB}(h:bs[i]?=Z X):(cG bs b t B T)[i]?=Z (dU bs b t B T i X):=by unfold cG;rw[dk,h];rfl
def iJ(bs:List GB)(b t:Nat)(B T:GB):cz (cG bs b t B T)=cz bs:=by simp[cG]
def gf{b t:Nat}{B T P:GB}(h:(cG bs b t B T)[i]?=Z P):∃X,bs[i]?=Z X/\P=dU bs b t B T i X:=by have⟨X,d⟩:=aQ bs i (by rw[<-iJ bs b t B T];exact(cY.mp h).1);rw[iq d] at h;cases h;exact⟨X,d,Q⟩
def dP(bs:List GB)(b t:Nat)(B T:GB)(i:Nat)(X:GB):(dU bs b t B T i X).to=if i=t then [] else if i=b then T.to else X.to:=by unfold dU;split;rfl;split;rfl;split<;>rfl
def dY(bs:List GB)(b t:Nat)(B T:GB)(i:Nat)(X:GB):(dU bs b t B T i X).kind=if i=t then 1 else if i=b then T.kind else X.kind:=by unfold dU;split;rfl;split;rfl;split<;>rfl
def mM{b t:Nat}{B T:GB}{X:GB}(h:i≠t):(dU bs b t B T i X).bz=(if(i:Int)∈T.to then Et (aN bs i) t b X else X).bz:=by unfold dU;rw[bM h];split;rfl;rfl
section
variable{bs:List GB}{b t:Nat}{B T:GB}
def dE.RL(c:dE bs b t B T){X:GB}(h:bs[j]?=Z X)(u:(t:Int)∈X.to):j=b:=by
 have h1:(b:Int)∈aN bs t:=cJ.2 ⟨b,Q,B,c.hb,by rw[c.to];simp⟩;have m:(j:Int)∈aN bs t:=cJ.2 ⟨j,Q,X,h,u⟩;have o:=c.one
 match d:aN bs t with
 |[]=>rw[d] at h1;simp at h1
 |[x]=>rw[d] at h1 m;simp at h1 m;omega
 |x::y::l=>rw[d] at o;simp at o
def dE.self(c:dE bs b t B T):(t:Int)∉T.to:=λh=>c.ne (c.RL c.ht h)
def dE.not(c:dE bs b t B T)(h:i≠t):(b:Int)∉aN bs i:=λo=>by
 have⟨j,e,X,d,m⟩:=cJ.1 o;have:j=b:=ab
 subst this;rw[c.hb] at d;cases d;rw[c.to] at m;simp at m;omega
def dE.mem(c:dE bs b t B T)(h:i≠t) :a∈aN (cG bs b t B T) i↔(a=b/\(i:Int)∈T.to)\/(a≠t/\a∈aN bs i):=by rw[cJ];constructor;rintro⟨j,rfl,P,C,d⟩;obtain⟨X,m,rfl⟩:=gf C;rw[dP] at d;by_cases o:j=t;rw[bK o] at d;simp at d;rw[bM o] at d;by_cases u:j=b;rw[bK u] at d;exact jZ ⟨ab,d⟩;rw[bM u] at d;exact kd ⟨ab,cJ.2 ⟨j,Q,X,m,d⟩⟩;rintro(⟨rfl,d⟩|⟨D,d⟩);exact⟨b,Q,_,iq c.hb,by rw[dP,bM (cE c.ne),bK rfl];exact d⟩;obtain⟨j,rfl,X,m,w⟩:=cJ.1 d;refine⟨j,Q,_,iq m,?_⟩;rw[dP,bM ab,bM (λe=>by subst e;exact c.not h d)];exact w
def dE.Uq(c:dE bs b t B T) :(t:Int)∈aN bs i↔(i:Int)∈T.to:=by
 rw[cJ];constructor
 .rintro⟨j,e,X,d,m⟩;have:j=t:=ab
  subst this;rw[c.ht] at d;cases d;exact m
 exactλh=>⟨t,Q,T,c.ht,h⟩
def dE.perm(c:dE bs b t B T)(h:i≠t):(aN (cG bs b t B T) i).Perm ((aN bs i).map λa:Int=>if a=t then(b:Int) else a):=by refine(List.perm_ext_iff_of_nodup (jz _ _) ?_).2 λa=>?_;refine ic.2 ((jz bs i).imp_of_mem fun {x y} o hy eV e=>?_);by_cases d:x=t;by_cases m:y=t;exact eV (d.trans m.symm);rw[bK d,bM m] at e;exact c.not h (e▸hy);by_cases m:y=t;rw[bM d,bK m] at e;exact c.not h (e▸o);rw[bM d,bM m] at e;exact eV e;rw[c.mem h,kC];constructor;rintro(⟨rfl,u⟩|⟨w,u⟩);exact⟨t,c.Uq.2 u,bK Q⟩;exact⟨a,u,bM w⟩;rintro⟨x,o,e⟩;by_cases d:x=t;rw[bK d] at e;exact jZ ⟨e.symm,c.Uq.1 (d▸o)⟩;rw[bM d] at e;exact kd ⟨e▸d,e▸o⟩
def dE.Yd(c:dE bs b t B T)(h:i≠t):cz (aN (cG bs b t B T) i)=cz (aN bs i):=by rw[(c.perm h).length_eq,AZ]
def Ar(h:x∈pk):∃k:Nat,aV pk x=k/\pk[k]?=Z x/\k<cz pk:=by
 induction pk with
 |nil=>simp at h
 |cons y ys d=>
  unfold aV;by_cases e:y=x;exact⟨0,by rw[bK e];rfl,au e,J⟩;have⟨k,h1,m,o⟩:=d ((bn.1 h).resolve_left (cE e));exact⟨k+1,by rw[bM e,h1,bM ab];rfl,aj m,by simp;omega⟩
def ako(h:cg∈pk):Ku cg now pk<cz pk:=pv.2 ⟨cg,h,J⟩
def aia(h:cg∈pk)(d:cz row=cz pk):cz (PA pk cg now row)=cz row:=by have⟨k,h1,m,o⟩:=Ar h;have:=ako (now:=now) h;unfold Ku at this;unfold PA;rw[h1,E0,Na (by rw[qw ab];omega),qw ab];omega
def dE.eb(c:dE bs b t B T)(E:EB bs):EB (cG bs b t B T):=by
 have e:=iJ bs b t B T;have G:∀P∈cG bs b t B T,∃(i:Nat) (X:GB),bs[i]?=Z X/\P=dU bs b t B T i X:=λP u=>by have⟨i,M⟩:=iG u;have⟨X,h1,w⟩:=gf M;exact⟨i,X,h1,w⟩
 have D:∀(i:Nat)(X:GB),bs[i]?=Z X->∀p∈(if(i:Int)∈T.to then Et (aN bs i) t b X else X).bz,cz p.row=cz (aN bs i):=λi X o p m=>by
  split at m;rename_i H;unfold Et at m;obtain⟨q,I,rfl⟩:=kC.1 m;show(PA _ _ _ q.row).length=_;have:=E.rows i X o q I;rw[aia (c.Uq.2 H) this,this]
  exact E.rows i X o p m
 refine⟨av E.n1,av E.n50,λP u=>?_,λP u a w=>?_,λi P u p m=>?_,λP u=>?_⟩;obtain⟨i,X,o,rfl⟩:=G P u;rw[dP,dY];by_cases d:i=t;rw[bK d,bK d];exact jZ ⟨Q,Q⟩;rw[bM d,bM d];by_cases C:i=b;rw[bK C,bK C];exact E.kind T (cO c.ht);rw[bM C,bM C];exact E.kind X (cO o);obtain⟨i,X,o,rfl⟩:=G P u;rw[e];rw[dP] at w;split at w;simp at w;split at w;exact E.to T (cO c.ht) a w;exact E.to X (cO o) a w;obtain⟨X,o,rfl⟩:=gf u;by_cases d:i=t;unfold dU at m;rw[bK d] at m;simp[uw] at m;rw[mM d] at m;rw[c.Yd d];exact D i X o p m
 .obtain⟨i,X,o,rfl⟩:=G P u;have G:=E.pl X (cO o);by_cases d:i=t
  unfold dU;rw[bK d];simp[uw];rw[mM d];split;simpa [Et] using G;exact G
def dE.others(c:dE bs b t B T){x:Nat}(C:x≠b)(no:∀u X U,¬dE bs x u X U):∀u X U,¬dE (cG bs b t B T) x u X U:=λu d d d=>by
 have⟨X,G,o⟩:=gf d.hb;have⟨U,I,H⟩:=gf d.ht;have m:x≠t:=λe=>by have:=d.k2;rw[o,dY,bK e] at this;omega
 have D:=d.k2;have w:=d.to;rw[o,dY,bM m,bM C] at D;rw[o,dP,bM m,bM C] at w;have E:u≠t:=λe=>C (c.RL G (by rw[w,e];simp));refine no u X U ⟨G,I,D,w,d.ne,?_,?_⟩
 have:=d.ph;rw[H,mM E] at this;split at this;simpa [Et] using this;exact this;rw[<-c.Yd E];exact d.one
def AW(bs:List GB):Nat:=(bs.map λb=>cz b.to).sum
def Ay:∀(l:List Nat)(i:Nat)(x y:Nat),l[i]?=Z y->(l.set i x).sum+y=l.sum+x
 |[],i,x,y,h=>by simp at h
 |z::l,0,x,y,h=>by simp at h;subst h;simp;omega
 |z::l,i+1,x,y,h=>by simp at h;have:=Ay l i x y h;simp;omega
def dE.less(c:dE bs b t B T):AW (cG bs b t B T)<AW bs:=by
 have e:(cG bs b t B T).map (λb=>cz b.to)=((bs.map λb=>cz b.to).set b (cz T.to)).set t 0:=by refine BT λi=>?_;rw[gM,fO,fO,ly,AZ,gM];by_cases m:i<cz bs;have⟨X,u⟩:=aQ bs i m;rw[iq u,u,Eo,dP];by_cases d:i=t;subst d;simp[m];by_cases o:i=b;subst o;simp[d,cE d,m];simp[d,o,cE d,cE o];rw[xU (by rw[iJ];omega),xU ab];have:=(cY.mp c.hb).1;have:=(cY.mp c.ht).1;rw[bM ab,bM ab]
 unfold AW;rw[e];have h1:=Ay (bs.map λb=>cz b.to) b (cz T.to) 1 (by rw[gM,c.hb,Eo,c.to];rfl);have w:=Ay ((bs.map λb=>cz b.to).set b (cz T.to)) t 0 (cz T.to) (by rw[fO,bM (cE c.ne),gM,c.ht];rfl);omega
inductive Steps:List GB->List GB->Prop
 |refl (bs:List GB):Steps bs bs
 |step {bs bs1:List GB} {b t:Nat} {B T:GB} (s:Steps bs bs1) (c:dE bs1 b t B T):Steps bs (cG bs1 b t B T)
def Steps.trans{a b c:List GB}(h:Steps a b)(k:Steps b c):Steps a c:=by
 induction k with
 |refl=>exact h
 |step _ c d=>exact .step d c
end
def xd:YB:=⟨cM,cM,cM,1,(cd,0),[],[],[]⟩
def qb(L s:YB)(a:SV):YB:= {L with L:=a,ls:=L.ls++s.ls}
section
variable{h h':az}{n0 b t:Nat}{B L':SV}{ys:List YB}{L s:YB}{S:Nat->Prop}
def Wi(u:ys[b]?=Z L)(G:ys[t]?=Z s)(o:Option (Nat×Lo))(c:Nat)(m:dV B (ys.set b (qb L s L')) o=Z c):(o=Z (b,.L)/\dt L'=Z c)\/∃C,dV B ys C=Z c/\C≠Z (b,.L)/\(C=o\/∃j,o=Z (b,.X (cz L.ls+j))/\C=Z (t,.X j)):=by
 have D:=(cY.mp u).1
 match o with
 |none=>exact kd ⟨K,m,nofun,jZ Q⟩
 |some (k,l)=>
  by_cases e:k=b
  .subst e;have d:(qb L s L').loc l=Z c:=by simpa [dV,D] using m
   match l with
   |.L=>exact jZ ⟨Q,d⟩
   |.P=>exact kd ⟨Z (_,.P),(by rw[cC u];exact d),nofun,jZ Q⟩
   |.T=>exact kd ⟨Z (_,.T),(by rw[cC u];exact d),nofun,jZ Q⟩
   |.R j=>exact kd ⟨Z (_,.R j),(by rw[cC u];exact d),nofun,jZ Q⟩
   |.X j=>
    simp only[YB.loc,qb] at d;rcases Kz j (cz L.ls) with w|w
    .rw[MG w] at d;exact kd ⟨Z (_,.X j),(by rw[cC u];exact d),nofun,jZ Q⟩
    .rw[OC w] at d;exact kd ⟨Z (t,.X (j-cz L.ls)),(by rw[cC G];exact d),nofun,kd ⟨j-cz L.ls,(by rw[Nat.add_sub_cancel' w]),Q⟩⟩
  refine kd ⟨Z (k,l),?_,λE=>e (by cases E;rfl),jZ Q⟩;simp only[dV] at m⊢;rw[fO,bM (cE e)] at m;exact m
def FZ.join(w:FZ h n0 B ys)(C:cu h)(m:ys[b]?=Z L)(M:ys[t]?=Z s)(g:ay S h h')(i:∀c,S c->∀o,dV B ys o=Z c->o=K\/o=Z (b,.L))(A:eM eF h' B (ys.set b (qb L s L')))(x:eM ia h' L' (L.ls++s.ls))(n:∀c,dt L'=Z c->dt L.L=Z c\/h.aw<=c)(G:n0<=h.aw):FZ h' n0 B (ys.set b (qb L s L'))/\∀c,cK B (ys.set b (qb L s L')) c->cK B ys c\/h.aw<=c:=by
 have G:=(cY.mp m).1;have f:=Wi (B:=B) (L':=L') m M;have no:∀ {k:Nat} {y:YB},ys[k]?=Z y->∀c l,S c->(k≠b\/l≠ .L)->y.loc l≠Z c:=fun {k y} hy c l d qm e=>by rcases i c d (Z (k,l)) (by rw[cC hy];exact e) with h|h<;>cases h;rcases qm with h|h<;>exact h rfl
 have i:=w.at m;refine⟨⟨A,λz A=>?_,λa r c F v=>?_,λo c e=>?_⟩,λc ⟨o,e⟩=>?_⟩
 .have⟨k,E⟩:=iG A;rw[fO] at E;by_cases e:b=k
  .subst e;rw[bK Q,bK G] at E;cases E;refine⟨i.P.go C g λc d=>no m c .P d (kd nofun),x,i.T.go C g λc d=>no m c .T d (kd nofun),λq u=>?_,λq u=>?_⟩
   .have⟨j,G⟩:=iG u;exact(i.ps q u).go C g λc d=>by rw[<-YB.jr (y:=L) G];exact no m c _ d (kd nofun)
   .rcases kg.1 u with u|u
    .have⟨j,G⟩:=iG u;exact(i.ls q u).go C g λc d=>by rw[<-YB.kY G];exact no m c _ d (kd nofun)
    .have⟨j,G⟩:=iG u;exact((w.at M).ls q u).go C g λc d=>by rw[<-YB.kY G];exact no M c _ d (kd nofun)
  rw[bM e] at E;exact(w.at E).go C g λc l d=>no E c l d (jZ (cE e))
 .have i:∀o c,dt L'=Z c->dV B ys o=Z c->o=Z (b,.L):=λo c h1 H=>by rcases n c h1 with h|h;exact(w.tQ (Z (b,.L)) o c (by rw[cC m];exact h) H).symm;have:=w.lt C H;omega
  rcases f a c F with⟨rfl,d⟩|⟨U,d,F,x⟩;rcases f r c v with⟨rfl,D⟩|⟨I,D,A,G⟩;exact jZ rfl;exact absurd (i I c d D) A
  .rcases f r c v with⟨rfl,D⟩|⟨I,D,A,G⟩;exact absurd (i U c D d) F
   .have F:Xo U->Xo a:=λV=>by rcases x with rfl|⟨j,rfl,rfl⟩;exact V;trivial
    have i:Xo I->Xo r:=λV=>by rcases G with rfl|⟨j,rfl,rfl⟩;exact V;trivial
    rcases w.inj U I c d D with h|⟨_,h1,H⟩;rcases x with rfl|⟨j,rfl,rfl⟩;rcases G with rfl|⟨j,rfl,rfl⟩;exact jZ h;exact kd ⟨trivial,by rw[h];trivial,trivial⟩;exact kd ⟨trivial,trivial,i (by rw[<-h];trivial)⟩;exact kd ⟨trivial,F h1,i H⟩
 rcases f o c e with⟨rfl,p⟩|⟨W,p,_,_⟩;rcases n c p with h|h;exact w.new (Z (b,.L)) c (by rw[cC m];exact h);omega;exact w.new W c p;rcases f o c e with⟨rfl,p⟩|⟨W,p,_,_⟩;exact(n c p).imp (λh=>⟨Z (b,.L),by rw[cC m];exact h⟩) id;exact jZ ⟨W,p⟩
def E6(L s:YB):YB:= {L with kind:=s.kind,on:=s.on,T:=s.T,to:=s.to}
def XH(u:ys[b]?=Z L)(E:ys[t]?=Z s)(I:t≠b)(o:Option (Nat×Lo))(c:Nat)(d:dV B ((ys.set b (E6 L s)).set t xd) o=Z c):(∀l,o≠Z (t,l))/\∃D,dV B ys D=Z c/\((D=o/\o≠Z (b,.T))\/(o=Z (b,.T)/\D=Z (t,.T))):=by
 have G:=(cY.mp u).1;have H:=(cY.mp E).1
 match o with
 |none=>exact⟨nofun,K,d,jZ ⟨Q,nofun⟩⟩
 |some (k,l)=>
  by_cases w:k=t
  .subst w;have:xd.loc l=Z c:=by simpa [dV,H] using d
   cases l<;>simp[xd,YB.loc,dt,cM] at this
  .refine⟨λa e=>w (by cases e;rfl),?_⟩;simp only[dV] at d;rw[fO,bM (cE w),fO] at d;by_cases C:b=k
   .subst C;rw[bK Q,bK G] at d;have m:(E6 L s).loc l=Z c:=d
    match l with
    |.T=>exact⟨Z (t,.T),(by rw[cC E];exact m),kd ⟨Q,Q⟩⟩
    |.P=>exact⟨Z (_,.P),(by rw[cC u];exact m),jZ ⟨Q,nofun⟩⟩
    |.L=>exact⟨Z (_,.L),(by rw[cC u];exact m),jZ ⟨Q,nofun⟩⟩
    |.R j=>exact⟨Z (_,.R j),(by rw[cC u];exact m),jZ ⟨Q,nofun⟩⟩
    |.X j=>exact⟨Z (_,.X j),(by rw[cC u];exact m),jZ ⟨Q,nofun⟩⟩
   rw[bM C] at d;exact⟨Z (k,l),d,jZ ⟨Q,λe=>C (by cases e;rfl)⟩⟩
def FZ.take(w:FZ h n0 B ys)(j:cu h)(m:ys[b]?=Z L)(C:ys[t]?=Z s)(U:t≠b)(g:ay S h h')(n:∀c,S c->∀o,dV B ys o=Z c->o=K)(r:eM eF h' B ((ys.set b (E6 L s)).set t xd)):FZ h' n0 B ((ys.set b (E6 L s)).set t xd)/\∀c,cK B ((ys.set b (E6 L s)).set t xd) c->cK B ys c:=by
 have V:=(cY.mp m).1;have G:=(cY.mp C).1;have i:=XH (B:=B) m C U;have f:∀ {k:Nat} {y:YB},ys[k]?=Z y->BZ h' y:=fun {k y} hy=>(w.at hy).go j g λc l j e=>by have:=n c j (Z (k,l)) (by rw[cC hy];exact e);cases this
 refine⟨⟨r,λz j=>?_,λa n c r M=>?_,λo c e=>?_⟩,λc ⟨o,e⟩=>?_⟩;have⟨k,d⟩:=iG j;rw[fO,ly] at d;by_cases I:t=k;rw[bK I,bK G] at d;cases d;exact⟨eM.nil _ _,eM.nil _ _,eM.nil _ _,λq D=>by simp[xd] at D,λq D=>by simp[xd] at D⟩;rw[bM I,fO] at d;by_cases H:b=k;rw[bK H,bK V] at d;cases d;exact⟨(f m).P,(f m).L,(f C).T,(f m).ps,(f m).ls⟩;rw[bM H] at d;exact f d;have⟨j,f,E,W⟩:=i a c r;have⟨r,G,u,d⟩:=i n c M;rcases W with⟨rfl,n⟩|⟨rfl,rfl⟩;rcases d with⟨rfl,n⟩|⟨rfl,rfl⟩;exact w.inj _ _ c E u;exact absurd (w.tQ (Z (t,.T)) f c u E).symm (j _);rcases d with⟨rfl,n⟩|⟨rfl,rfl⟩;exact absurd (w.tQ (Z (t,.T)) G c E u).symm (r _);exact jZ rfl;have⟨_,G,p,_⟩:=i o c e;exact w.new G c p;have⟨_,G,p,_⟩:=i o c e;exact⟨G,p⟩
end
def lQ{bs d:List GB}(w:cz d=cz bs)(h:∀(i:Nat)(x b:GB),bs[i]?=Z x->d[i]?=Z b->b.to=x.to)(b:Int):aN d b=aN bs b:=by unfold aN jX;rw[w];congr 1;refine List.filter_congr λi m=>?_;have m:=OB.1 m;have o:bs[i]?=Z bs[i]:=jh m;have u:d[i]?=Z (d[i]'ab):=jh ab;have:=h i _ _ o u;congr 1;rw[o,u];simp[this]
def EB.list{bs:List GB}(E:EB bs){b:Nat}{X:GB}(C:bs[b]?=Z X)(l:List GI):EB (bs.set b {X with list:=l})/\∀i,aN (bs.set b {X with list:=l}) i=aN bs i:=by
 have G:=(cY.mp C).1;have o:∀(i:Nat)(y:GB),(bs.set b {X with list:=l})[i]?=Z y->∃x,bs[i]?=Z x/\y= {x with list:=y.list} :=λi y d=>by rw[fO] at d;by_cases e:b=i;subst e;rw[bK Q,bK G] at d;cases d;exact⟨X,C,Q⟩;rw[bM e] at d;exact⟨y,d,Q⟩
 have A:∀i,aN (bs.set b {X with list:=l}) i=aN bs i:=lQ J λi x H h1 m=>by have⟨y,w,D⟩:=o i H m;rw[h1] at w;cases w;rw[D]
 have a:∀y∈bs.set b {X with list:=l},∃x∈bs,y= {x with list:=y.list} :=λy d=>by have⟨i,I⟩:=iG d;have⟨x,h1,m⟩:=o i y I;exact⟨x,cO h1,m⟩
 refine⟨⟨aj E.n1,aj E.n50,λy d=>?_,λy d=>?_,λi y d p u=>?_,λy d=>?_⟩,A⟩;have⟨x,h1,m⟩:=a y d;rw[m];exact E.kind x h1;have⟨x,h1,m⟩:=a y d;rw[m,ly];exact E.to x h1;have⟨x,h1,m⟩:=o i y d;rw[m] at u;rw[A];exact E.rows i x h1 p u;have⟨x,h1,m⟩:=a y d;rw[m];exact E.pl x h1
def Vg(D:cu h){B:SV}(W:FZ h n0 B ys)(r:n0<=h.aw){X b u C:Nat}{to:Nat}(m:ys[b]?=Z L)(j:ys[to]?=Z s)(f:B.a=Z ⟨u,0,K⟩)(g:eR h X (Ir s) C)(p:cz L.ls+cz s.ls<2000000)(G:bY e 4=eU (Z ⟨u,b*6,K⟩))(k:bU e 6 X)(l:∀i h' a,aG ChD e i->ay (cK B ys) h h'->FZ h' n0 B (ys.set b (qb L s a))->(∀c,cK B (ys.set b (qb L s a)) c->cK B ys c\/h.aw<=c)->z .normal i h'):aK FF YM e h z:=by
 have q:=W.at m;have v:=W.at j;have i:=(cY.mp m).1;obtain⟨w,i,i,i,M,i,i,i,i,d⟩:=W.A.el m;rw[f] at M;cases M;have d:=i 1 1 ag;simp[-ax] at d;have i:=g;simp[Ir] at i;have x:=D.cg g;unfold YM;simp[G,k,i,d,-ax,aI,aB i,x];have H:ay aR h (tick h):=bk D;have i:=H.ok;generalize tick h=h1 at i H;have⟨a,g,x,k,V,n,_⟩:=Ff (E:=ia) (bytes:=80) (z:=[fc ft 0,fc ft 0,dC cd,fc ft 0,dC cd,fc ft 0,fc ft 0,dB K 0 0]) i rfl (q.L.cm D H) (v.L.sl.cm D H) p ag;have p:∀c,dt a=Z c->bx a.v c:=λc d=>by rcases k.2 with⟨U,_⟩|⟨q,_,_,_,U,_⟩;simp[dt,U] at d;rw[cD U] at d;cases d;exact fH U
 have q:∀c,bx L.L.v c->dt B≠Z c:=λc d e=>by have:=W.tQ K (Z (b,.L)) c e (by rw[cC m];exact dI d);cases this
 have v:=(W.A.cm D H).go i V λc d=>q c d;obtain⟨w,I,w,q,M,B,q,q,i,t⟩:=v.el m;rw[f] at M;cases M;have i:=q 1 1 ag;simp at i;refine mn x ?_;simp[G,B,i];have i:ay (· =u) g (put g u (b*6+1) I [dB a.a a.l a.c] w):=bc V.ok B;have q:=t (qb L s a) 1 [dB a.a a.l a.c] J rfl (put g u (b*6+1) I [dB a.a a.l a.c] w) ⟨_,aZ _ _ _ _ _ _⟩;have B:=H.aw;have B:=W.A.lt D (cD f);have B:∀c,dt a=Z c->dt L.L=Z c\/h.aw<=c:=λc d=>by rcases n c (p c d) with h|h;exact jZ (dI h);exact kd ab
 have G:ay (λc=>bx L.L.v c\/c=u) h (put g u (b*6+1) I [dB a.a a.l a.c] w):=(H.cm.trans' V ai (λ_ _ h=>jZ h)).trans' i ai (λ_ _ h=>kd h);have w:=k.go V.ok i λc d e=>by rw[d] at e;rcases B _ e with h|h;have:=W.tQ K (Z (b,.L)) u (cD f) (by rw[cC m];exact h);cases this;omega
 have⟨k,i⟩:=W.join D m j G (λc d o j=>by rcases d with h|h;exact kd (W.tQ (Z (b,.L)) o c (by rw[cC m];exact dI h) j).symm;exact jZ (W.tQ K o c (by rw[h];exact cD f) j).symm) q w B r;refine l _ _ a ?_ (G.cU λc _ d=>?_) k i
 .repeat (refine aG.set ?_)
  exact aG.refl _ _
 rcases d with h|h;exact⟨Z (b,.L),by rw[cC m];exact dI h⟩;exact⟨K,by rw[h];exact cD f⟩
def R9(f:cu h){B g:SV}(w:n0<=h.aw){X b I C F M:Nat}{to:Nat}(O:ys[b]?=Z L)(T:ys[to]?=Z s)(c:dE (ys.map YB.g) b to L.g s.g)(E:EB (ys.map YB.g))(W:FZ h n0 B (ys.set b (qb L s g)))(N:B.a=Z ⟨I,0,K⟩)(P:eR h X (Ir s) C)(A:¬cK B (ys.set b (qb L s g)) X)(S:eR h F (aC name p rg B) M)(n:¬cK B (ys.set b (qb L s g)) F)(q:bU e 1 F)(t:bC e 3 b)(f4:bY e 4=eU (Z ⟨I,b*6,K⟩))(f5:bC e 5 to)(f6:bU e 6 X)(C':∀d h' m,aG ChA e d->ay (cK B (ys.set b (qb L s g))) h h'->FZ h' n0 B m->(∀c,cK B m c->cK B (ys.set b (qb L s g)) c\/h.aw<=c)->(xS B ys->xS B m)->m.map YB.g=cG (ys.map YB.g) b to L.g s.g->z .normal d h'):aK FF R7 e h z:=by
 have pM:=(cY.mp O).1;have qW:=(cY.mp T).1;have⟨V,r⟩:∃V,V=qb L s g:=⟨_,Q⟩;have⟨d,v⟩:∃d,d=ys.set b V:=⟨_,Q⟩;have kk:=Wi (B:=B) (L':=g) O T;rw[<-r,<-v] at W A n C' kk;have ht1:d[to]?=Z s:=by rw[v,fO,bM (cE c.ne)];exact T
 have SU:d[b]?=Z V:=by rw[v,fO,bK Q,bK pM]
 have g:d.map YB.g=(ys.map YB.g).set b {L.g with list:=L.g.list++s.g.list} :=by rw[v,cL,r];congr 1;simp[qb,YB.g]
 have yg:∀ {k:Nat} {y:YB},ys[k]?=Z y->(ys.map YB.g)[k]?=Z y.g:=λh=>by rw[gM,h];rfl
 have⟨G,r⟩:=E.list (yg O) (L.g.list++s.g.list);rw[<-g] at G r;unfold R7;simp[q,t,f5];have T:=TR f W w S n (cg:=to) (now:=b) ht1 G;refine bh.call (by simpa [q] using T) ?_;rintro _ w⟨m,T2,Mz,HT⟩;have t:=T2.w;have dy:=T2.g.get f P A;have jg:=T2.g.get f S n;have T:=f.wf _ _ P;have P:=f.wf _ _ S;have vS:cz m=cz ys:=by have:=congrArg bW Mz;simp[NV,v] at this;exact this
 have⟨D,u⟩:=aQ m b;have⟨P,G⟩:=aQ m to;have T:=HT b V D SU u;have ezt:=HT to s P ht1 G;obtain⟨YH,cs,oB,T,A,CI,f,S,f,f⟩:=t.A.el u;rw[N] at A;cases A;have T:=S 2 4 ag;simp at T;have dK:=dy;simp[Ir] at dK;have S:=jg;have eo:=t.A.len;simp[aC] at S;rw[N,eo,vS] at S;have oB:cK B d I:=⟨K,cD N⟩;have nFB:¬F=I:=λe=>n (e▸oB);have A3:=f (E6 D P) 2 [fc ft s.kind,dC s.on.1,fc ft s.on.2,dB s.T.a s.T.l s.T.c] J (by rw[ezt];rfl) (put w I (b*6+2) cs [fc ft s.kind,dC s.on.1,fc ft s.on.2,dB s.T.a s.T.l s.T.c] _) ⟨_,aZ _ _ _ _ _ _⟩;have f:(m.set b (E6 D P))[to]?=Z P:=by rw[fO,bM (cE c.ne)];exact G
 obtain⟨YH,cs3,oB3,n,A,n,aB7,VI,apq,VV⟩:=A3.el f;rw[N] at A;cases A;have U:=VI 0 6 ag;simp at U;have f:=bc (off:=b*6+2) (vs:=[fc ft s.kind,dC s.on.1,fc ft s.on.2,dB s.T.a s.T.l s.T.c]) T2.g.ok CI;have HA:=f.get T2.g.ok S nFB;simp[f4,f6,dK,CI,T];generalize put w I (b*6+2) cs _ _=A at*;simp[q,f5,HA,n,U,qW];have S:=bc (off:=to*6) (vs:=[dB K 0 0,dB K 0 0,fc ft 1,dC cd,fc ft 0,dB K 0 0]) f.ok n;have n:=VV xd 0 [dB K 0 0,dB K 0 0,fc ft 1,dC cd,fc ft 0,dB K 0 0] J rfl (put A I (to*6) cs3 [dB K 0 0,dB K 0 0,fc ft 1,dC cd,fc ft 0,dB K 0 0] oB3) ⟨A.clock,J⟩;have⟨q,s5⟩:=t.take T2.g.ok u G c.ne (f.trans S) (λx H o T=>(t.tQ K o x (by rw[H];exact cD N) T).symm) n;have n:=XH (B:=B) u G c.ne;refine C' _ _ ((m.set b (E6 D P)).set to xd) ?_ (T2.g.trans' (f.trans S) ai λx _ H=>by rw[H];exact oB) q (λx H=>T2.s x (s5 x H)) (λH a a' x ha KH=>?_) ?_
 .repeat (refine aG.set ?_)
  exact aG.refl _ _
 .rcases q.inj a a' x ha KH with h|⟨_,x1,x2⟩;exact jZ h;have back:∀o,Xo o->dV B ((m.set b (E6 D P)).set to xd) o=Z x->(∀l,o≠Z (to,l))/\∃S,dV B ys S=Z x/\(S=o\/∃j,o=Z (b,.X (cz L.ls+j))/\S=Z (to,.X j)):=λo f T=>by
   have⟨G,q,N,t⟩:=n o x T;refine⟨G,?_⟩;rcases t with⟨rfl,_⟩|⟨rfl,_⟩
   .have n:dV B d q=Z x:=by
     match q,f with
     |some (k,.X j),_=>
      have⟨B,h1,w⟩:=JT.1 N;have⟨y,T⟩:=aQ d k (by have:=(cY.mp h1).1;rw[v];simp;omega);rw[cC T];rw[HT k y B T h1] at w;exact w
    rcases kk q x n with⟨rfl,_⟩|⟨S,h1,_,w⟩;exact f.elim;exact⟨S,h1,w⟩
   exact f.elim
  have⟨G,q,N,t⟩:=back a x1 ha;have⟨f,S,n,B⟩:=back a' x2 KH;have e:=(H q S x N n).elim id λh=>h.1.elim;rcases t with rfl|⟨j,rfl,rfl⟩
  rcases B with rfl|⟨j,rfl,rfl⟩;exact jZ e;exact absurd e (G _);rcases B with rfl|⟨v,rfl,rfl⟩;exact absurd e.symm (f _);cases e;exact jZ rfl
 .refine BT λi=>?_;rw[cL,cL,fO,fO];simp only[ly,AZ,vS];by_cases B:i<cz ys
  .have⟨y,T⟩:=aQ ys i B;rw[iq (yg T)];unfold dU;by_cases n:to=i;subst n;rw[bK Q,bK B,bK rfl];rfl
   .rw[bM n,bM (cE n)];by_cases t:b=i
    .subst t;rw[O] at T;cases T;rw[bK Q,bK B,bK rfl];have h1:(m.map YB.g)[b]?=Z D.g:=by rw[gM,u];rfl
     have w:(d.map YB.g)[b]?=Z {L.g with list:=L.g.list++s.g.list} :=by rw[g,fO,bK Q,bK (aj pM)]
     rw[Mz,H4 w,r] at h1;have A:=gD h1;have f:(E6 D P).g=⟨D.g.bz,D.g.list,s.g.kind,s.g.on,s.g.to⟩:=by rw[ezt];rfl
     rw[f,<-A];by_cases N:(b:Int)∈s.to;have B:(b:Int)∈s.g.to:=N;rw[bK N,bK B];rfl;have B:¬(b:Int)∈s.g.to:=N;rw[bM N,bM B]
    .rw[bM t,bM (cE t),Mz];have w:(d.map YB.g)[i]?=Z y.g:=by rw[g,fO,bM t,yg T]
     rw[H4 w,r];rfl
  rw[bM ab,bM ab,xU (by simp;omega),xU (by rw[iJ];simp;omega)]
def iz(bs:List GB):Nat:=(bs.map λb=>cz b.list).sum
def ahX:∀(l:List Nat)(i x:Nat),l[i]?=Z x->x<=l.sum
 |[],i,x,h=>by simp at h
 |z::l,0,x,h=>by simp at h;subst h;simp
 |z::l,i+1,x,h=>by simp at h;have:=ahX l i x h;simp;omega
def DB{b:GB}(h:bs[i]?=Z b):cz b.list<=iz bs:=ahX _ i _ (by rw[gM,h];rfl)
def dE.lists{b t:Nat}{B T:GB}(c:dE bs b t B T):iz (cG bs b t B T)=iz bs:=by
 have e:(cG bs b t B T).map (λb=>cz b.list)=((bs.map λb=>cz b.list).set b (cz B.list+cz T.list)).set t 0:=by refine BT λi=>?_;rw[gM,fO,fO,ly,AZ,gM];by_cases m:i<cz bs;have⟨X,u⟩:=aQ bs i m;rw[iq u,u,Eo];unfold dU;by_cases d:i=t;subst d;simp[m,uw];by_cases o:i=b;subst o;simp[d,cE d,m];simp[d,o,cE d,cE o];split<;>rfl;rw[xU (by rw[iJ];omega),xU ab];have:=(cY.mp c.hb).1;have:=(cY.mp c.ht).1;rw[bM ab,bM ab]
 unfold iz;rw[e];have h1:=Ay (bs.map λb=>cz b.list) b (cz B.list+cz T.list) (cz B.list) (by rw[gM,c.hb];rfl);have w:=Ay ((bs.map λb=>cz b.list).set b (cz B.list+cz T.list)) t 0 (cz T.list) (by rw[fO,bM (cE c.ne),gM,c.ht];rfl);omega
def xY(bs:List GB)(x:Nat):Prop:=∀u X U,¬dE bs x u X U
structure Z5(h0 h':az)(n0:Nat)(B:SV)(ji ys:List YB):Prop where
 T:cV h0 h' n0 B ji B ys
 E:EB (ys.map YB.g)
 S:Steps (ji.map YB.g) (ys.map YB.g)
 l:iz (ys.map YB.g)=iz (ji.map YB.g)
 len:cz ys=cz ji
def ayK(a:az)(n0:Nat)(B:SV)(ji:List YB)(b F R d:Nat)(m:Nat)(e:Env)(h':az):Prop:=
 ∃ys:List YB,m=AW (ys.map YB.g)/\bU e 1 F/\bU e 2 R/\bC e 3 b/\bY e 4=eU (Z ⟨d,b*6,K⟩)/\Z5 a h' n0 B ji ys/\∀x,x≠b->xY (ji.map YB.g) x->xY (ys.map YB.g) x
def Vh{i:az}(G:cu i){B:SV}(r:n0<=i.aw)(r:FZ i n0 B ji)(j:EB (ji.map YB.g))(N:iz (ji.map YB.g)<1000000){F R b N M:Nat}(t:B.a=Z ⟨N,0,K⟩)(V:eR i F (aC name p rg B) M)(S:¬cK B ji F)(d:b<cz ji)(d:bU e 1 F)(q:bU e 2 R)(w:bC e 3 b)(T:bY e 4=eU (Z ⟨N,b*6,K⟩))(O:∀n h' ys,bU n 1 F->bU n 2 R->bC n 3 b->Z5 i h' n0 B ji ys->(∀x,x=b\/xY (ji.map YB.g) x->xY (ys.map YB.g) x)->z (.exit 2) n h'):aK FF (.loop qI) e i z:=by
 refine aK.loop (ayK i n0 B ji b F R N) ?_ (n:=AW (ji.map YB.g)) ⟨ji,Q,d,q,w,T,⟨.refl r G,j,.refl _,Q,Q⟩,λ_ _ h=>h⟩;rintro q n h'⟨ys,rfl,n,N,q,q4,P,No⟩;have T:=P.T;have g:=T.g;have r:=g.ok;have w:=P.len;have E:=P.E;have d:cz (ys.map YB.g)=cz ys:=AZ ..;have j:=E.n50;rw[d] at j;have j:∀ {k:Nat} {y:YB},ys[k]?=Z y->(ys.map YB.g)[k]?=Z y.g:=λh=>by rw[gM,h];rfl
 have⟨L,H⟩:=aQ ys b;have f:=cO (j H);have Rb:=T.w.at H;obtain⟨l,l,l,l,l,A,A,A,A,eQ⟩:=T.w.A.el H;rw[t] at l;cases l;have rdk:=A 2 1 ag;have W:=A 5 1 ag;simp[-ax] at rdk W;have rq:=g.get G V S;have A:=rq;have eo:=T.w.A.len;simp[aC] at A;rw[t,eo] at A;have l:=G.wf _ _ V;have G:=r.cg rq;have G:=g.aw;have qk:∀c,h'.aw<=c->¬cK B ys c:=λc hc h=>av (T.w.mq r h)
 have nF1:¬cK B ys F:=λh=>(T.s F h).elim S ab;have CC:∀D G,bU D 1 F->bU D 2 R->bC D 3 b->ay aR h' G->xY (ys.map YB.g) b->z (.exit 2) D G:=λD G S V l o nb=>O D G ys S V l ⟨T.cm o,E,P.S,P.l,w⟩ λx S=>by by_cases e:x=b;rw[e];exact nb;exact No x e (S.resolve_left e)
 unfold qI;by_cases V:L.kind=2
 .have⟨l,O⟩:∃l,L.to=[l]:=by rcases E.kind L.g f with⟨h,_⟩|⟨_,h⟩|⟨h,_⟩;have h':L.kind=1:=h;omega;exact h;have h':L.kind=3:=h;omega
  have w:=E.to L.g f l (by show l∈L.to;rw[O];simp);rw[d] at w;obtain⟨to,rfl⟩:∃u:Nat,l=u:=⟨l.toNat,ab⟩;have I:to<cz ys:=ab
  have⟨s,l⟩:=aQ ys to I;have Rt:=T.w.at l;have d:=Rb.T;rw[O] at d;obtain⟨f,f,f,f,BO,f,f,_,f,_⟩:=d.el (i:=0) (x:=(to:Int)) rfl;have rt0:=f 0 1 ag;simp[-ax] at rt0;have f:=d.len;simp at f;have⟨_,_,_,_,d,w,_,_,Ab,_⟩:=T.w.A.el l;rw[t] at d;cases d;have w:=Ab 0 6 ag;simp[-ax] at w;have Q1:(L.kind==2)=ck:=by simp[V]
  rw[BO,f] at W;have only:∀ {u:Nat} {X U:GB},dE (ys.map YB.g) b u X U->u=to/\U=s.g:=fun {u X U} d=>by
   have h1:=d.hb;rw[j H] at h1;cases h1;have f:L.to=[(u:Int)]:=d.to;rw[O] at f;have G:to=u:=by simp at f;omega
   subst G;have h4:=d.ht;rw[j l] at h4;cases h4;exact⟨Q,Q⟩
  simp[n,q,q4,rdk,Q1,W,rt0,A,aB A,I,w,-ax];refine bh.cut (λf=>ay aR h' f/\di f h'.aw (Ir s)) ?_ ?_;exact⟨(ay.refl r).var _ _,h'.clock,by simp[aX,Ir]⟩;rintro f⟨w,C,hX⟩;have ux:=w.get r A;have HB:=w.get r rq;have dy:=hX;simp[Ir] at dy;have fW:=Rt.P.len;have T2:=T.cm w;by_cases A:to=b
  .have T:((to:Int)==(b:Int))=ck:=by simp[A]
   simp[T];exact CC _ _ (au n) (au N) (au q) w λu X U d=>d.ne ((only d).1.trans A)
  have T:((to:Int)==(b:Int))=cd:=by simp;omega
  by_cases D:0<cz s.ps;simp[T,dy,fW,D];exact CC _ _ (au n) (au N) (au q) w λu X U d=>by have h1:=d.ph;rw[(only d).2] at h1;simp[YB.g] at h1;rw[h1] at D;simp at D
  have iV:s.ps=[]:=AN ab;simp[T,dy,fW,iV,n,ux];refine bh.call (V:=λv h'=>ay aR f h'/\∃d ws,v=dB (Z ⟨d,0,K⟩) (cz ys) (cz ys)/\lx encI f.aw h' d ws (Edge.df (cw (ys.map YB.g)))) (by simpa [aC,t,eo] using mh w.ok (name:=name) (p:=p) (r:=rg) T2.w.view E.ends) ?_;rintro _ G⟨o,d,ws,rfl,T⟩;have QA:=E.ahead (k:=to) ab;have⟨m,QC⟩:=aQ ws to (by rw[T.len];exact(cY.mp QA).1);have⟨f,hd⟩:=T.bZ;have f:=Gn hd QC;simp[-ax] at f;have hWs:bp encI G m.v (aN (ys.map YB.g) to):=(T.acc to m _ QC QA).sl;have UI:m.l=cz (aN (ys.map YB.g) to):=by have⟨a,T,e,_⟩:=id hWs;simp at e;exact e.2.1
  have dK:=o.get w.ok hX;have HA:=o.get w.ok HB;by_cases T:1<cz (aN (ys.map YB.g) to)
  .have T:(1:Int)<(cz (aN (ys.map YB.g) to):Int):=ab
   simp[f,I,UI,T,-ax];exact CC _ _ (au n) (au N) (au q) (w.trans o) λu X U d=>by have h1:=d.one;rw[(only d).1] at h1;omega
  have c:dE (ys.map YB.g) b to L.g s.g:=⟨j H,j l,V,O,A,by show s.ps.map (·.1)=[];rw[iV];rfl,ab⟩;have T:¬(1:Int)<(cz (aN (ys.map YB.g) to):Int):=ab
  simp[f,I,UI,T,-ax];have O:=T2.cm o;have f:=DB (j H);have A:=DB (j l);have hl:=P.l;simp[YB.g] at f A;refine Vg o.ok O.w (av O.g.aw) H l t dK (by simp only[YB.g] at*;omega) (au q4) J ?_;intro T A A A f W5 s5;have lX:h'.aw<G.aw:=o.ok.wf _ _ dK;have G:=o.aw;have G:=w.aw;have jQ:=f.get o.ok dK (qk _ ab);have Vz:=f.get o.ok HA nF1;have m1:=A.at (t:=1) (ak n);have m2:=A.at (t:=2) (ak N);have G:=A.at (t:=3) (ak q);have w:=A.at (t:=4) (ak q4);have m5:bY T 5=fc ft to:=A.at J;have m6:bU T 6 h'.aw:=A.at J;simp;refine R9 f.ok (by have:=O.g.aw;have:=f.aw;omega) H l c E W5 t jQ (λh=>(s5 _ h).elim (qk _ ab) ab) Vz (λh=>(s5 _ h).elim nF1 ab) m1 G w m5 m6 ?_;intro t h6 A t g6 W6 s6 x6 l;have T:cV i h6 n0 B ji B A:=O.step (f.trans' g6 ai λc hc h=>(s5 c h).elim id λh=>ab) (λc h=>jZ h) ⟨W6,λc h=>by have:=f.aw;rcases s6 c h with h|h;exact s5 c h;exact kd ab,x6⟩
  simp;refine⟨AW (A.map YB.g),by rw[l];exact c.less,A,Q,t.at m1,t.at m2,t.at G,t.at w,⟨T,by rw[l];exact c.eb E,by rw[l];exact .step P.S c,by rw[l,c.lists,hl],?_⟩,λx S h=>by rw[l];exact c.others S (No x S h)⟩;have:=congrArg bW l;simp[iJ] at this;omega
 .have Q1:(L.kind==2)=cd:=by simp[V]
  simp[q4,rdk,Q1,-ax];exact CC _ _ (au n) (au N) (au q) (.refl r) λu X U d=>by have h1:=d.hb;rw[j H] at h1;cases h1;exact V d.k2
def afU(name:ByteArray)(p rg:Int)(n0:Nat)(B:SV)(ji:List YB)(h:az)(v:aa)(h':az):Prop:=
 v=ix ⟨aC name p rg B⟩/\∃ys,Z5 h h' n0 B ji ys/\∀x,xY (ys.map YB.g) x
def ayL(a:az)(n0:Nat)(B:SV)(ji:List YB)(F R:Nat)(m:Nat)(e:Env)(h':az):Prop:=
 ∃(b:Nat) (ys:List YB),m=cz ji-b/\b<=cz ji/\bU e 1 F/\bU e 2 R/\bC e 3 b/\Z5 a h' n0 B ji ys/\∀x,x<b->xY (ys.map YB.g) x
def Sa(I:cu h){name:ByteArray}{p rg:Int}{B:SV}(A:n0<=h.aw)(w:FZ h n0 B ji)(W:EB (ji.map YB.g))(j:iz (ji.map YB.g)<1000000):aY FF 136 [ix ⟨aC name p rg B⟩] h (afU name p rg n0 B ji h):=by
 have S:=W.n50;have E:=W.n1;rw[AZ] at S E;have l:=w.A.len;have⟨n,t⟩:=aQ ji 0 E;have⟨L,_,_,_,q,d,_⟩:=w.A.el t;have z:∀c,h.aw<=c->¬cK B ji c:=λc A h=>av (w.mq I h)
 refine aY.of Kx ?_;unfold Bv;have f:¬h.aw=h.aw+1:=ab
 simp[aC];refine aK.cut (λh1=>ay aR h h1/\(di h1 h.aw (aC name p rg B))/\(di h1 (h.aw+1) [gX ⟨⟨[]⟩⟩,fc ft 0,fc ft 0,dB K 0 0])) ?_ ?_;exact⟨((ay.refl I).new _ _).new _ _,⟨0,by simp[aC,f]⟩,⟨0,J⟩⟩;rintro h1⟨o,⟨M,i⟩,⟨d,G⟩⟩;have e:=o.aw;have v:=o.ok.wf _ _ i;have e:=o.ok.wf _ _ G;refine aK.loop (ayL h1 n0 B ji h.aw (h.aw+1)) ?_ (n:=cz ji) ⟨0,ji,Q,ab,J,J,J,⟨.refl (w.cm I o) o.ok,W,.refl _,Q,Q⟩,λx O=>ab⟩;rintro m k h'⟨b,ys,rfl,s,a,n,V,P,F⟩;have T:=P.T;have g:=T.g;have k:=g.ok;have y:=g.get o.ok i (z _ ab);have D:=g.get o.ok G (z _ ab);have H:=y;have i:=T.w.A.len;have d:=P.len;have r:=g.aw;simp[aC] at H;rw[q,i,d] at H;have G:∀c,h.aw<=c->c<h1.aw->¬cK B ys c:=λc N s S=>(T.s c S).elim (z c N) ab;unfold yW;by_cases S:b<cz ji
 have N:=ch ((b:Int)+1) ab ab;simp[a,V,H,S];refine Vh k ab T.w P.E (by rw[P.l];exact j) (F:=h.aw) (R:=h.aw+1) (b:=b) q y (G _ ab v) ab (au a) (au n) (au V) J ?_;intro f s y r t j C v;simp[j,N];exact⟨cz ji-(b+1),ab,b+1,y,Q,S,au r,au t,J,⟨T.trans C.T,C.E,P.S.trans C.S,C.l.trans P.l,C.len.trans d⟩,λx O=>v x (by rcases Kz x b with h|h;exact kd (F x h);exact jZ ab)⟩
 .have:b=cz ji:=ab
  subst this;have nR:¬h.aw+1=h.aw:=ab
  simp[a,n,V,H,D,nR];have f:=(ay.refl k).put (S:=λx=>x=h.aw+1) (off:=0) (vs:=[cW name,aA ec p,aA ec rg,bf (Z ⟨L,0,K⟩) (cz ji) B.c]) ⟨_,D⟩ (kd Q);generalize put h' _ _ _ _ _=h6 at f⊢;refine⟨by simp[aC,q,l],ys,⟨(((cV.refl w I).cm o).trans T).go f (λc A=>⟨ab,by rw[A];exact G _ ab e⟩),P.E,P.S,P.l,d⟩,λx=>?_⟩;rcases Kz x (cz ji) with h|h
  exact F x h;intro u X U d;have:=(cY.mp d.hb).1;simp at this;omega
def dz(l a:List Int):List Int:=a.foldl ee l
def fp(l a b:List Int):dz l (a++b)=dz (dz l a) b:=by unfold dz;rw[eE]
def QS(l:List Int)(r:Int):l <+: ee l r:=by unfold ee;split;exact sM _;exact Dm _ _
def mj:∀(a l:List Int),l <+: dz l a
 |[],l=>sM _
 |r::a,l=>(QS l r).trans (mj a (ee l r))
def Ji(l:List Int)(r:Int):r∈ee l r:=by unfold ee;split<;>simp[*]
def tU:∀(a l:List Int){r:Int},r∈a->r∈dz l a
 |[],l,_,h=>by simp at h
 |x::a,l,r,h=>by rcases bn.1 h with rfl|h;exact(mj a (ee l r)).subset (Ji l r);exact tU a (ee l x) h
def Nr{r:Int}(h:l.Nodup):(ee l r).Nodup:=by unfold ee;split;exact h;rename_i o;rw[List.nodup_append];exact⟨h,J,λa m b d e=>by simp at d;subst d;exact o (e▸m)⟩
def ab_:∀(a:List Int){l:List Int},l.Nodup->(dz l a).Nodup
 |[],_,h=>h
 |r::a,_,h=>ab_ a (Nr (r:=r) h)
def Bk{l L:List Int}(h:l <+: L)(d:x∈l):aV L x=aV l x:=by
 obtain⟨t,rfl⟩:=h;induction l with
 |nil=>simp at d
 |cons y l m=>
  simp only[Jb];unfold aV;by_cases e:y=x;rw[bK e,bK e];rw[bM e,bM e,m ((bn.1 d).resolve_left (cE e))]
def NQ{r:Int}(h:r∉l):aV (l++[r]) r=cz l:=by
 induction l with
 |nil=>simp[aV]
 |cons y l d=>
  simp only[bn,not_or] at h;rw[Jb];unfold aV;rw[bM (cE h.1),d h.2,bM ab,List.length_cons];omega
def aaD{r x:Int}(h:x∉l)(d:x≠r):aV (l++[r]) x= -1:=v7 (by simp[h,d])
structure E4(h:az)(N nb aF:Nat)(l:List Int):Prop where
 hN:di h N [dB (Z ⟨nb,0,K⟩) aF aF,fc ft l.length]
 hb:di h nb (encI.flat ((aU aF).map λr:Nat=>aV l r))
 ne:N≠nb
 nd:l.Nodup
 lt:∀x∈l,0<=x/\x<aF
def E4.go{S:Nat->Prop}(w:E4 h N nb aF l)(d:cu h)(g:ay S h h')(h1:¬S N)(m:¬S nb):E4 h' N nb aF l:=by have⟨s,a⟩:=w.hN;have⟨o,b⟩:=w.hb;exact⟨⟨s,g.get d a h1⟩,⟨o,g.get d b m⟩,w.ne,w.nd,w.lt⟩
def E4.low(w:E4 h N nb aF l)(d:cu h):N<h.aw/\nb<h.aw:=by have⟨s,a⟩:=w.hN;have⟨m,b⟩:=w.hb;exact⟨d.wf _ _ a,d.wf _ _ b⟩
def Ny(d:l.Nodup)(c:∀x∈l,0<=x/\x<aF):cz l<=aF:=by
 have h1:(l.map qA).Nodup:=ic.2 (d.imp_of_mem fun {a b} ha hb eV e=>eV (by have:=c a ha;have:=c b hb;omega));have:=TP h1 (l₂:=aU aF) (λx m=>by obtain⟨y,d,rfl⟩:=kC.1 m;have:=c y d;exact OB.2 ab)
 simpa using this
def Q2(N nb aF:Nat)(l:List Int)(r:Int)(h:az)(v:aa)(h':az):Prop:=ay (Dc N nb) h h'/\E4 h' N nb aF (ee l r)/\v=fc ft (aV (ee l r) r)
def Ak(a:cu h)(w:E4 h N nb aF l){r:Int}(j:0<=r/\r<aF)(T:aF<1000000):aY FF 194 [eU (Z ⟨N,0,K⟩),fc ft r] h (Q2 N nb aF l r h):=by
 have⟨⟨s,I⟩,⟨O,M⟩,b,f,i⟩:=id w;obtain⟨r,rfl⟩:∃u:Nat,r=u:=⟨r.toNat,ab⟩;have G:r<aF:=ab
 have E:((aU aF).map λr:Nat=>aV l r)[r]?=Z (aV l r):=by simp[G]
 have V:=ov M E;refine aY.of Hf ?_;unfold yx;by_cases H:(r:Int)∈l
 .have⟨k,c,_,_⟩:=Ar H;rw[c] at V;have d:ee l r=l:=by unfold ee;rw[bK H]
  have q:(0:Int)<=(k:Int):=ab
  have W:¬(k:Int)<0:=ab
  simp[I,G,V,W,-ax,aB I];exact⟨.refl a,by rw[d];exact w,by rw[d,c]⟩
 .have q:=v7 H;rw[q] at V;have d:ee l r=l++[(r:Int)]:=by unfold ee;rw[bM H]
  have hl:cz l<aF:=by have:=Ny (l:=l++[(r:Int)]) (aF:=aF) (by rw[<-d];exact Nr f) (λx E=>by rcases kg.1 E with h|h;exact i x h;simp at h;subst h;exact j);simp at this;omega
  have y:=ch ((cz l:Int)+1) ab ab;have P:=a.st _ _ _ _ _ I;have⟨now,C⟩:∃now,now=(aU aF).map λr:Nat=>aV l r:=⟨_,Q⟩;rw[<-C] at M;have S:cz now=aF:=by rw[C];simp
  have c:r<cz now:=ab
  have ne2:¬N=nb:=b;have z:¬nb=N:=cE b;have L:r+1<=cz now:=ab
  have X:(aU aF).map (λr:Nat=>aV (l++[(r:Int)]) r)=(aU aF).map (λr:Nat=>aV (l++[(r:Int)]) r):=Q;have B:now.set r (cz l:Int)=(aU aF).map λx:Nat=>aV (ee l r) x:=by rw[d,C];refine BT λm=>?_;rw[fO];by_cases e:r=m;subst e;rw[bK Q,bK (aj G),gM,fj G];simp[NQ H];rw[bM e,gM,gM];rcases Kz m aF with h|h;rw[fj h];simp only[Eo];congr 1;by_cases o:(m:Int)∈l;exact(Bk (Dm _ _) o).symm;rw[v7 o,aaD o ab];rw[xU (aj h)];rfl
  simp[I,M,G,c,L,V,-ax,aB I,aI];have F:=uj now r (cz l:Int) c;have U:=bc (off:=r) (vs:=[aA ft (cz l:Int)]) (bk a).ok (b:=nb) (aj M);have v:(put (tick h) nb r (encI.flat now) [aA ft (cz l:Int)] 0).tr.get nb=Z (.bZ (encI.flat (now.set r (cz l:Int))) cd 0 (h.clock+1)):=by rw[aZ,F];rfl
  have n:=U.get (bk a).ok (b:=N) (aj I) b;have t:=(bk a).cm.trans U;generalize put (tick h) nb r (encI.flat now) [aA ft (cz l:Int)] 0=h1 at*;simp[n,y];have g:=bc (off:=1) (vs:=[aA ft ((cz l:Int)+1)]) U.ok n;have D:(put h1 N 1 [bf (Z ⟨nb,0,K⟩) aF aF,aA ft l.length] [aA ft ((cz l:Int)+1)] 0).tr.get N=Z (.bZ [dB (Z ⟨nb,0,K⟩) aF aF,fc ft ((cz l:Int)+1)] cd 0 h1.clock):=by rw[aZ];rfl
  have p:=g.get U.ok v z;generalize put h1 N 1 _ _ 0=h2 at*;have A:=ov p (k:=r) (x:=(cz l:Int)) (by rw[fO,bK Q,bK c]);simp[D,G,A,-ax,aB D];refine⟨(t.cU (λx _ e=>kd e)).trans (g.cU (λx _ e=>jZ e)),⟨⟨h1.clock,?_⟩,(by rw[<-B];exact⟨_,p⟩),b,Nr f,λx E=>?_⟩,?_⟩
  rw[D,d];simp;rw[d] at E;rcases kg.1 E with h|h;exact i x h;simp at h;subst h;exact j;rw[d,NQ H]
def kq(v:Bool×Int):List Int:=if v.1 then [v.2] else []
def ah4(l:List Int)(r:Int):dz l [r]=ee l r:=Q
def KY(N nb aF:Nat)(l:List Int)(u:Bool×Int)(h:az)(v:aa)(h':az):Prop:=ay (Dc N nb) h h'/\E4 h' N nb aF (dz l (kq u))/\v=ix ⟨[dC (bq (dz l (kq u)) u).1,fc ft (bq (dz l (kq u)) u).2]⟩
def vN(H:cu h)(w:E4 h N nb aF l){u:Bool×Int}(b:∀r∈kq u,0<=r/\r<aF)(G:aF<1000000):aY FF 195 [eU (Z ⟨N,0,K⟩),ix ⟨[dC u.1,fc ft u.2]⟩] h (KY N nb aF l u h):=by
 have⟨M,r⟩:=u;obtain⟨a,a⟩:=w.low H;refine aY.of IG ?_;unfold zR;have U:¬h.aw=h.aw+1:=ab
 have a:¬h.aw+1=h.aw:=ab
 simp;refine aK.cut (λh1=>ay aR h h1/\(di h1 h.aw [dC M,fc ft r])/\(di h1 (h.aw+1) [dC cd,fc ft 0])) ?_ ?_;exact⟨((ay.refl H).new _ _).new _ _,⟨0,au U⟩,⟨0,J⟩⟩;rintro h1⟨d,⟨c,m⟩,⟨c,E⟩⟩;have I:=w.go H d (λh=>h) (λh=>h);cases M
 simp[m,E];exact⟨d.cm.put ⟨_,E⟩ (jZ ab),I.go d.ok (bc d.ok E) ab ab,Q⟩;simp[m];refine bh.call (V:=Q2 N nb aF l r h1) (aj (Ak d.ok I (b r (by simp[kq])) G)) ?_;rintro _ G⟨o,c,rfl⟩;have C:=o.get d.ok m (λe=>by rcases e with e|e<;>omega);have b:=o.get d.ok E (λe=>by rcases e with e|e<;>omega);have D:=bc (off:=1) (vs:=[aA ft (aV (ee l r) r)]) o.ok C;have w:(put G h.aw 1 [br ck,aA ft r] [aA ft (aV (ee l r) r)] 0).tr.get h.aw=Z (.bZ [dC ck,fc ft (aV (ee l r) r)] cd 0 G.clock):=by rw[aZ];rfl
 have w:=D.get o.ok b a;simp[C,b,U,a];generalize put G h.aw 1 _ _ 0=h3 at*;have W:=c.go o.ok D ab ab;have G:=bc (off:=0) (vs:=[br ck,aA ft (aV (ee l r) r)]) D.ok w;exact⟨((d.cm.trans o).trans' D ai (λy d e=>ab)).trans' G ai (λy d e=>ab),W.go D.ok G ab ab,Q⟩
def tJ(row:List (Bool×Int)):List Int:=row.flatMap kq
def CD(x:GI):List Int:=kq x.a++(kq x.b++(tJ x.args++if 0<=x.dst then [x.dst] else []))
def Sy(b:GB):List Int:=b.bz.map (·.dst)++(b.list.flatMap CD++kq b.on)
structure NZ(h:az)(n0:Nat)(B:SV)(ys:List YB)(N nb aF:Nat)(l:List Int):Prop where
 W:FZ h n0 B ys
 w:E4 h N nb aF l
 nN:¬cK B ys N
 nb:¬cK B ys nb
 Re:aF<1000000
section
variable{n0:Nat}{B:SV}{ys:List YB}{N nb aF:Nat}{l b:List Int}
def NZ.step{h d:az}(k:NZ h n0 B ys N nb aF l)(m:cu h)(C:ay (Dc N nb) h d)(u:E4 d N nb aF b):NZ d n0 B ys N nb aF b:=
 ⟨k.W.go m C (λc o w e=>by rcases w with h|h;exact k.nN ⟨o,h▸e⟩;exact k.nb ⟨o,h▸e⟩),u,k.nN,k.nb,k.Re⟩
def NZ.cm{h m:az}(k:NZ h n0 B ys N nb aF l)(d:cu h)(o:ay aR h m):NZ m n0 B ys N nb aF l:=
 ⟨k.W.cm d o,k.w.go d o (λh=>h) (λh=>h),k.nN,k.nb,k.Re⟩
def NZ.lt(k:NZ h n0 B ys N nb aF l)(d:cu h):N<h.aw/\nb<h.aw:=k.w.low d
def vP(aF:Nat)(a:List Int):Prop:=∀r∈a,0<=r/\r<aF
def vP.fst{a b:List Int}(h:vP aF (a++b)):vP aF a:=λr d=>h r (aW _ d)
def vP.snd{a b:List Int}(h:vP aF (a++b)):vP aF b:=λr d=>h r (af _ d)
def vP.at{f:H->List Int}{W:List H}(h:vP aF (W.flatMap f)){x:H}(d:x∈W):vP aF (f x):=λr m=>h r (ba.2 ⟨x,d,m⟩)
def kB{f:H->List Int}{W:List H}{x:H}(h:W[j]?=Z x)(l:List Int):dz l ((W.take (j+1)).flatMap f)=dz (dz l ((W.take j).flatMap f)) (f x):=by rw[kh,h,B4,fp];simp
def NaZ(h:az)(n0:Nat)(B:SV)(ys:List YB)(N nb aF:Nat)(l:List Int)(row:List (Bool×Int))(e:Env)(m:Nat)(a:Env)(h':az):Prop:=
 ∃j:Nat,m=cz row-j/\j<=cz row/\aG NaL e a/\bC a 79 j/\ay (Dc N nb) h h'/\NZ h' n0 B ys N nb aF (dz l (tJ (row.take j)))
def aih(A:cu h)(k:NZ h n0 B ys N nb aF l)(O:ys[i]?=Z y){q:GI×SV}(W:y.ls[V]?=Z q)(a:cz q.1.args<=1048576)(x:vP aF (tJ q.1.args))(S:bU e 3 N)(I:bY e 77=q.2.v)(H:bC e 78 (cz q.1.args))(G:bC e 79 0)(C:∀T h',aG NaL e T->ay (Dc N nb) h h'->NZ h' n0 B ys N nb aF (dz l (tJ q.1.args))->z (.exit 8) T h'):aK FF (.loop sQ) e h z:=by
 refine aK.loop (NaZ h n0 B ys N nb aF l q.1.args e) ?_ (n:=cz q.1.args) ⟨0,Q,ab,aG.refl _ _,G,.refl A,k⟩;rintro m T h'⟨j,rfl,d,P,u,g,D⟩;have L:=g.ok;have X:=P.at S;have d:=P.at I;have w:=P.at H;unfold sQ;by_cases M:j<cz q.1.args
 .have S:=ch ((j:Int)+1) ab ab;have⟨v,a⟩:=aQ q.1.args j M;obtain⟨b,F,o,s,t,F,F,_,c,_⟩:=((D.W.at O).ls q (cO W)).el a;have n:=c 0 2 ag;have G:=((D.W.at O).ls q (cO W)).len;simp[-ax] at n;simp at d;rw[t,G] at d;simp[X,d,w,u,M,n,-ax,aH];have E:ay aR h' (put (aJ h' [dC cd,fc ft 0] 0) h'.aw 0 [dC cd,fc ft 0] [dC v.1,fc ft v.2] 0):=(ay.refl L).var _ _;generalize put (aJ h' [dC cd,fc ft 0] 0) h'.aw 0 _ _ 0=h2 at*;have p:=D.cm L E;refine bh.call (V:=KY N nb aF _ v h2) (aj (vN E.ok p.w (x.at (cO a)) k.Re)) ?_;rintro _ x⟨T,U,rfl⟩;simp[u,S];refine⟨cz q.1.args-(j+1),ab,j+1,Q,M,?_,J,g.trans (E.cm.trans T),p.step E.ok T (by unfold tJ at U⊢;rw[kB a];exact U)⟩
  exact aq
 .have:j=cz q.1.args:=ab
  subst this;rw[mO] at D;simp[w,u];exact C _ _ (aG.set P) g D
def NpZ(h:az)(n0:Nat)(B:SV)(ys:List YB)(N nb aF:Nat)(l:List Int)(a:List (GP×SV))(e:Env)(m:Nat)(b:Env)(h':az):Prop:=
 ∃j:Nat,m=cz a-j/\j<=cz a/\aG NpL e b/\bC b 52 j/\ay (Dc N nb) h h'/\NZ h' n0 B ys N nb aF (dz l ((a.take j).flatMap λq=>[q.1.dst]))
def aij(A:cu h)(k:NZ h n0 B ys N nb aF l)(V:ys[i]?=Z y)(a:cz y.ps<=1048576)(L:vP aF (y.ps.flatMap λq=>[q.1.dst]))(S:bU e 3 N)(T:bY e 50=y.P.v)(p:bC e 51 (cz y.ps))(G:bC e 52 0)(C:∀I h',aG NpL e I->ay (Dc N nb) h h'->NZ h' n0 B ys N nb aF (dz l (y.ps.flatMap λq=>[q.1.dst]))->z (.exit 4) I h'):aK FF (.loop ta) e h z:=by
 refine aK.loop (NpZ h n0 B ys N nb aF l y.ps e) ?_ (n:=cz y.ps) ⟨0,Q,ab,aG.refl _ _,G,.refl A,k⟩;rintro m I h'⟨j,rfl,v,P,u,g,E⟩;have W:=g.ok;have a:=P.at S;have d:=P.at T;have w:=P.at p;unfold ta;by_cases M:j<cz y.ps
 .have S:=ch ((j:Int)+1) ab ab;have⟨q,H⟩:=aQ y.ps j M;have R:=E.W.at V;obtain⟨b,F,o,s,G,F,_,_,c,_⟩:=R.P.el H;have n:=c 0 2 ag;simp[-ax] at n;have X:=R.P.len;simp at d;rw[G,X] at d;simp[a,d,w,u,M,n,-ax,aH];have D:ay aR h' (put (aJ h' [fc ft 0,dB K 0 0] 0) h'.aw 0 [fc ft 0,dB K 0 0] [fc ft q.1.dst,dB q.2.a q.2.l q.2.c] 0):=(ay.refl W).var _ _;generalize put (aJ h' [fc ft 0,dB K 0 0] 0) h'.aw 0 _ _ 0=h2 at*;have d:=E.cm W D;refine bh.call (V:=Q2 N nb aF _ q.1.dst h2) (aj (Ak D.ok d.w (L.at (cO H) q.1.dst J) k.Re)) ?_;rintro _ x⟨U,x,rfl⟩;simp[u,S];refine⟨cz y.ps-(j+1),ab,j+1,Q,M,?_,J,g.trans (D.cm.trans U),d.step D.ok U (by rw[kB H];exact x)⟩
  exact aq
 .have:j=cz y.ps:=ab
  subst this;rw[mO] at E;simp[w,u];exact C _ _ (aG.set P) g E
def NlZ(h:az)(n0:Nat)(B:SV)(ys:List YB)(N nb aF:Nat)(l:List Int)(d:List (GI×SV))(e:Env)(m:Nat)(a:Env)(h':az):Prop:=
 ∃j:Nat,m=cz d-j/\j<=cz d/\aG NlL e a/\bC a 64 j/\ay (Dc N nb) h h'/\NZ h' n0 B ys N nb aF (dz l ((d.take j).flatMap λq=>CD q.1))
def aii(S:cu h)(k:NZ h n0 B ys N nb aF l)(O:ys[i]?=Z y)(a:cz y.ls<=1048576)(F:∀q∈y.ls,cz q.1.args<=1048576)(L:vP aF (y.ls.flatMap λq=>CD q.1))(n:bU e 3 N)(r:bY e 62=y.L.v)(f:bC e 63 (cz y.ls))(G:bC e 64 0)(C':∀X h',aG NlL e X->ay (Dc N nb) h h'->NZ h' n0 B ys N nb aF (dz l (y.ls.flatMap λq=>CD q.1))->z (.exit 6) X h'):aK FF (.loop sZ) e h z:=by
 refine aK.loop (NlZ h n0 B ys N nb aF l y.ls e) ?_ (n:=cz y.ls) ⟨0,Q,ab,aG.refl _ _,G,.refl S,k⟩;rintro m X h'⟨j,rfl,v,c,t,g,I⟩;have a:=g.ok;have d:=c.at n;have u:=c.at r;have V:=c.at f;unfold sZ;by_cases P:j<cz y.ls
 .have G:=ch ((j:Int)+1) ab ab;have⟨q,S⟩:=aQ y.ls j P;have⟨x,A⟩:=q;have w:=cO S;have R:=I.W.at O;obtain⟨b,p,o,s,f,p,_,_,v,_⟩:=R.L.el S;have n:=v 0 8 ag;simp[-ax] at n;have p:=R.L.len;have r:=(R.ls _ w).len;have X:=L.at w;simp at u;rw[f,p] at u;simp[d,u,V,t,P,n,-ax,aH];refine bh.cut (λU=>ay aR h' U/\di U h'.aw [fc ft x.op,fc ft x.dst,dC x.a.1,fc ft x.a.2,dC x.b.1,fc ft x.b.2,fc ft x.fn,dB A.a A.l A.c]) ?_ ?_
  exact⟨(ay.refl a).var _ _,h'.clock,by simp[aX]⟩;rintro U⟨H,C,T⟩;have p:=I.cm a H;have⟨n,L⟩:=I.lt a;have v:¬Dc N nb h'.aw:=λe=>by rcases e with e|e<;>omega
  refine bh.call (V:=KY N nb aF _ x.a U) (aj (vN H.ok p.w X.fst k.Re)) ?_;rintro _ f⟨D,L,rfl⟩;have n:=p.step H.ok D L;have p:=D.get H.ok T v;simp[d,p];refine bh.call (V:=KY N nb aF _ x.b f) (aj (vN D.ok n.w X.snd.fst k.Re)) ?_;rintro _ a⟨T,L,rfl⟩;have a:=n.step D.ok T L;have f:=T.get D.ok p v;simp at r;simp[f];refine aih T.ok a O S (F _ w) X.snd.snd.fst (au d) J (au r) J ?_;intro F r W L n;have p:=L.get T.ok f v;have O:=W.at (t:=3) (ak d);have M:bU F 10 h'.aw:=W.at J;have a:=W.at (t:=64) (ak t);have d:=g.trans (H.cm.trans (D.trans (T.trans L)));have w:aG NlL e F:=by
   refine aG.trans ?_ (W.cU)
   exact aq
  have w:=kB (f:=λq:GI×SV=>CD q.1) S l;unfold CD at w;rw[fp,fp,fp] at w;by_cases E:0<=x.dst
  .rw[bK E] at w;have v:=X.snd.snd.snd x.dst (by rw[bK E];simp);simp[O,M,p,E];refine bh.call (V:=Q2 N nb aF _ x.dst r) (aj (Ak L.ok n.w v k.Re)) ?_;rintro _ F⟨r,v,rfl⟩;simp[a,G];refine⟨cz y.ls-(j+1),ab,j+1,Q,P,?_,J,d.trans r,n.step L.ok r (by unfold CD;rw[w];exact v)⟩
   exact aq
  .rw[bM E] at w;simp[O,M,p,E,a,G];refine⟨cz y.ls-(j+1),ab,j+1,Q,P,?_,J,d,by unfold CD;rw[w];exact n⟩
   exact aq
 .have:j=cz y.ls:=ab
  subst this;rw[mO] at I;simp[V,t];exact C' _ _ (aG.set c) g I
end
section
variable{n0:Nat}{B:SV}{ys:List YB}{N nb aF:Nat}{l:List Int}
structure SzZ(y:YB):Prop where
 p:cz y.ps<=100000
 l:cz y.ls<=100000
 r:∀q∈y.ps,cz q.1.row<=100000
 a:∀q∈y.ls,cz q.1.args<=100000
def agy(y:YB):Sy y.g=(y.ps.flatMap λq=>[q.1.dst])++((y.ls.flatMap λq=>CD q.1)++kq y.on):=by
 unfold Sy YB.g;rw[List.map_map,List.flatMap_map];congr 1;induction y.ps with
 |nil=>rfl
 |cons p m d=>rw[xg,List.flatMap_cons,d];rfl
def NbZ(h:az)(n0:Nat)(B:SV)(ys:List YB)(N nb aF:Nat)(l:List Int)(v1 v2:aa)(m:Nat)(a:Env)(h':az):Prop:=
 ∃j:Nat,m=cz ys-j/\j<=cz ys/\bY a 1=v1/\bY a 2=v2/\bU a 3 N/\bY a 43=B.v/\bC a 44 (cz ys)/\bC a 45 j/\ay (Dc N nb) h h'/\NZ h' n0 B ys N nb aF (dz l ((ys.take j).flatMap λy=>Sy y.g))
def aar(d:cu h)(k:NZ h n0 B ys N nb aF l)(L:cz ys<50)(sz:∀y∈ys,SzZ y)(L:vP aF (ys.flatMap λy=>Sy y.g))(p:bY e 1=v1)(i:bY e 2=v2)(c:bU e 3 N)(b:bY e 43=B.v)(a:bC e 44 (cz ys))(O:bC e 45 0)(P:∀H h',bY H 1=v1->bY H 2=v2->bU H 3 N->ay (Dc N nb) h h'->NZ h' n0 B ys N nb aF (dz l (ys.flatMap λy=>Sy y.g))->z (.exit 2) H h'):aK FF (.loop tc) e h z:=by
 refine aK.loop (NbZ h n0 B ys N nb aF l v1 v2) ?_ (n:=cz ys) ⟨0,Q,ab,p,i,c,b,a,O,.refl d,k⟩;rintro m H h'⟨j,rfl,d,p,O,a,d,i,E,g,D⟩;have b:=g.ok;unfold tc;by_cases c:j<cz ys
 .have S:=ch ((j:Int)+1) ab ab;have⟨r,G⟩:=aQ ys j c;have n:=cO G;have w:=sz r n;have v:=w.p;have v:=w.l;have M:=L.at n;rw[agy] at M;have R:=D.W.at G;obtain⟨n,n,o,s,L,n,_,_,v,_⟩:=D.W.A.el G;have n:=v 0 6 ag;simp[-ax] at n;have v:=D.W.A.len;have f:=R.P.len;have A:=R.L.len;simp at d;rw[L,v] at d;simp[a,d,i,E,c,n,-ax,aH,f];refine aK.cut (λU=>ay aR h' U/\di U h'.aw [dB r.P.a (cz r.ps) r.P.c,dB r.L.a (cz r.ls) r.L.c,fc ft r.kind,dC r.on.1,fc ft r.on.2,dB r.T.a r.T.l r.T.c]) ?_ ?_
  exact⟨(ay.refl b).var _ _,h'.clock,by simp[aX,f,A]⟩;rintro U⟨I,C,t⟩;have n:=D.cm b I;obtain⟨x,x⟩:=D.lt b;have x:¬Dc N nb h'.aw:=λe=>by rcases e with e|e<;>omega
  refine aij I.ok n G ab M.fst (au a) (au f) J J ?_;intro V f u b n;have f:=b.get I.ok t x;have a1:=u.at (t:=1) (ak p);have a2:=u.at (t:=2) (ak O);have t:=u.at (t:=3) (ak a);have F:bU V 6 h'.aw:=u.at J;have a43:=u.at (t:=43) (ak d);have V:=u.at (t:=44) (ak i);have T:=u.at (t:=45) (ak E);simp[F,f];refine aii b.ok n G ab (λq d=>av (w.a q d)) M.snd.fst (au t) (au A) J J ?_;intro A A w d n;have X:=d.get b.ok f x;have x:=w.at (t:=1) (ak a1);have b2:=w.at (t:=2) (ak a2);have f:=w.at (t:=3) (ak t);have t:=w.at (t:=6) (ak F);have W:=w.at (t:=43) (ak a43);have F:=w.at (t:=44) (ak V);have V:=w.at (t:=45) (ak T);simp[f,t,X];refine bh.call (V:=KY N nb aF _ r.on A) (aj (vN d.ok n.w M.snd.snd k.Re)) ?_;rintro _ A⟨w,A,rfl⟩;have r:=kB (f:=λy:YB=>Sy y.g) G l;rw[agy,fp,fp] at r;simp[V,S];exact⟨cz ys-(j+1),ab,j+1,Q,c,au x,au b2,au f,by simp[W,L,v],au F,J,g.trans (I.cm.trans (b.trans (d.trans w))),n.step d.ok w (by rw[r];exact A)⟩
 .have:j=cz ys:=ab
  subst this;rw[mO] at D;simp[i,E];exact P _ _ (au p) (au O) (au a) g D
def NqZ(h:az)(n0:Nat)(B:SV)(ys:List YB)(N nb aF:Nat)(p:Nat)(v1 v2:aa)(m:Nat)(a:Env)(h':az):Prop:=
 ∃j:Nat,m=p-j/\j<=p/\bY a 1=v1/\bY a 2=v2/\bU a 3 N/\bC a 34 p/\bC a 35 j/\ay (Dc N nb) h h'/\NZ h' n0 B ys N nb aF (ku j)
def aaB(p:Nat):ee (ku p) p=ku (p+1):=by rw[NM];unfold ee;rw[bM];unfold ku;simp;intro x d;omega
def aas(W:cu h)(k:NZ h n0 B ys N nb aF []){p:Nat}(L:p<=aF)(U:bY e 1=v1)(d:bY e 2=v2)(b:bU e 3 N)(G:bC e 34 p)(E:bC e 35 0)(C:∀u h',bY u 1=v1->bY u 2=v2->bU u 3 N->ay (Dc N nb) h h'->NZ h' n0 B ys N nb aF (ku p)->z (.exit 0) u h'):aK FF (.loop td) e h z:=by
 have x:=k.Re;refine aK.loop (NqZ h n0 B ys N nb aF p v1 v2) ?_ (n:=p) ⟨0,Q,ab,U,d,b,G,E,.refl W,k⟩;rintro m u h'⟨j,rfl,v,H,T,w,d,o,g,D⟩;unfold td;by_cases I:j<p;have b:=ch ((j:Int)+1) ab ab;simp[w,d,o,I];refine bh.call (V:=Q2 N nb aF _ (j:Int) h') (aj (Ak g.ok D.w (r:=(j:Int)) ab k.Re)) ?_;rintro _ x⟨P,M,rfl⟩;simp[o,b];exact⟨p-(j+1),ab,j+1,Q,I,au H,au T,au w,au d,J,g.trans P,D.step g.ok P (by rw[<-aaB];exact M)⟩
 .have:j=p:=ab
  subst this;simp[d,o];exact C _ _ (au H) (au T) (au w) g D
end
structure WZ(h0 h:az)(n0:Nat)(B:SV)(ji ys:List YB)(N nb aF:Nat)(l:List Int):Prop where
 k:NZ h n0 B ys N nb aF l
 x:xS B ys
 n0:n0<=h0.aw
 s:∀c,cK B ys c->cK B ji c\/h0.aw<=c
 g:ay (λc=>cK B ji c\/Dc N nb c) h0 h
section
variable{b h h':az}{n0:Nat}{B:SV}{ji ys t:List YB}{N nb aF:Nat}{l r:List Int}
def WZ.refl(k:NZ h n0 B ys N nb aF l)(x:xS B ys)(m:n0<=h.aw)(d:cu h):WZ h h n0 B ys ys N nb aF l:=⟨k,x,m,λ_ h=>jZ h,.refl d⟩
def WZ.kz(w:WZ b h n0 B ji ys N nb aF l)(U:cV h h' n0 B ys B t):WZ b h' n0 B ji t N nb aF l:=by
 have m:=w.g.ok;have E:=w.g.aw;have⟨u,C⟩:=w.k.lt m;have o:∀c,c<h.aw->¬cK B ys c->¬cK B t c:=λc d D e=>(U.s c e).elim D ab;refine⟨⟨U.w,w.k.w.go m U.g w.k.nN w.k.nb,o _ u w.k.nN,o _ C w.k.nb,w.k.Re⟩,U.x w.x,w.n0,λc d=>?_,w.g.trans' U.g ai λc d h=>?_⟩
 rcases U.s c d with h|h;exact w.s c h;exact kd ab;exact(w.s c h).elim jZ (λh=>ab)
def WZ.nm(w:WZ b h n0 B ji ys N nb aF l)(g:ay (Dc N nb) h h')(d:E4 h' N nb aF r):WZ b h' n0 B ji ys N nb aF r:=
 ⟨w.k.step w.g.ok g d,w.x,w.n0,w.s,w.g.trans' g ai λ_ _ h=>kd h⟩
def WZ.cm(w:WZ b h n0 B ji ys N nb aF l)(g:ay aR h h'):WZ b h' n0 B ji ys N nb aF l:=
 ⟨w.k.cm w.g.ok g,w.x,w.n0,w.s,w.g.trans g.cm⟩
def WZ.box(w:WZ b h n0 B ji ys N nb aF l)(g:ay (· =P) h h')(C:b.aw<=P)(u:¬cK B ys P)(m:¬Dc N nb P):WZ b h' n0 B ji ys N nb aF l:=
 ⟨⟨w.k.W.go w.g.ok g (λc o d e=>u ⟨o,d▸e⟩),w.k.w.go w.g.ok g (λe=>m (jZ e.symm)) (λe=>m (kd e.symm)),w.k.nN,w.k.nb,w.k.Re⟩,w.x,w.n0,w.s,w.g.trans' g ai λc d e=>ab⟩
def WZ.trans{d:List YB}(w:WZ b h1 n0 B ji d N nb aF l)(v:WZ h1 h n0 B d ys N nb aF r):WZ b h n0 B ji ys N nb aF r:=
 ⟨v.k,v.x,w.n0,λc m=>(v.s c m).elim (w.s c) (λh=>kd (av w.g.aw)),w.g.trans' v.g ai λc m h=>h.elim (λh=>(w.s c h).elim jZ (λh=>ab)) kd⟩
def WZ.no(w:WZ b h n0 B ji ys N nb aF l)(m:c<b.aw)(d:¬cK B ji c):¬cK B ys c:=λe=>(w.s c e).elim d ab
def xu{l L:List Int}(h:l <+: L)(d:∀r∈kq v,r∈l):bq l v=bq L v:=by unfold bq;by_cases e:v.1=ck;rw[bK e,bK e,Bk h (d v.2 (by unfold kq;rw[bK e];simp))];rw[bM e,bM e]
def CV{f:H->List Int}{W:List H}{x:H}(d:W[j]?=Z x){l L:List Int}(h:dz l (W.flatMap f) <+: L):dz (dz l ((W.take j).flatMap f)) (f x) <+: L:=by
 refine List.IsPrefix.trans ?_ h;rw[<-kB d];have e:W.flatMap f=(W.take (j+1)).flatMap f++(W.drop (j+1)).flatMap f:=by rw[<-B4,List.take_append_drop]
 rw[e,fp];exact mj _ _
def QP{H a b:Type}{f:H×a->b}{F:b->b}{d b:List (H×a)}{q:H×a}{x:H×a}(o:b[j]?=Z q)(e:d.map f=((b.map f).take j).map F)(m:f x=F (f q):=by rfl):(d++[x]).map f=((b.map f).take (j+1)).map F:=by rw[aL,e,kh,gM,o,aL];simp[m]
def Gs(y:YB)(j:Nat)(x:GI)(A:SV):YB:= {y with ls:=y.ls.set j (x,A)}
def WaZ(h:az)(n0:Nat)(B:SV)(ys:List YB)(N nb aF:Nat)(l L:List Int)(i V:Nat)(y:YB)(x:GI)(A:SV)(e:Env)(m:Nat)(a:Env)(h':az):Prop:=
 ∃j:Nat,m=cz x.args-j/\j<=cz x.args/\aG WaL e a/\bC a 164 j/\WZ h h' n0 B ys (ys.set i (Gs y V {x with args:=(x.args.take j).map (bq L)++x.args.drop j} A)) N nb aF (dz l (tJ (x.args.take j)))
def apY(S:cu h)(k:NZ h n0 B ys N nb aF l)(P:xS B ys)(p:n0<=h.aw){L:List Int}{x:GI}(n:ys[i]?=Z y)(O:y.ls[V]?=Z (x,A))(hL:dz l (tJ x.args) <+: L)(t:vP aF (tJ x.args))(a:cz x.args<=1048576)(q:eR h X U C)(oX:¬cK B ys X)(nX:¬Dc N nb X)(MW:(U.drop 7).take 1=[A.v])(f3:bU e 3 N)(d:bU e 20 X)(a:bY e 162=A.v)(fl:bC e 163 (cz x.args))(F:bC e 164 0)(C':∀T h',aG WaL e T->WZ h h' n0 B ys (ys.set i (Gs y V {x with args:=x.args.map (bq L)} A)) N nb aF (dz l (tJ x.args))->z (.exit 18) T h'):aK FF (.loop jH) e h z:=by
 have fI:=(cY.mp n).1;have OJ:=(cY.mp O).1;have w:ys.set i (Gs y V {x with args:=(x.args.take 0).map (bq L)++x.args.drop 0} A)=ys:=by
  have:Gs y V {x with args:=(x.args.take 0).map (bq L)++x.args.drop 0} A=y:=by unfold Gs;rw[show y.ls.set V ({x with args:=(x.args.take 0).map (bq L)++x.args.drop 0},A)=y.ls from Bo O]
  rw[this];exact Bo n
 refine aK.loop (WaZ h n0 B ys N nb aF l L i V y x A e) ?_ (n:=cz x.args) ⟨0,Q,ab,aG.refl _ _,F,by rw[w];exact .refl k P p S⟩;rintro m T h'⟨j,rfl,T,P,f,w⟩;have g:=w.g;have G:=g.ok;have q3:=P.at f3;have qX:=P.at d;have p:=P.at a;have ql:=P.at fl;have O:=g.get S q (λe=>e.elim oX nX);have n:=S.wf _ _ q;have yP:7+1<=cz U:=by have:=congrArg bW MW;simp at this;omega
 unfold jH;by_cases S:j<cz x.args
 .have wj:=ch ((j:Int)+1) ab ab;have⟨v,H⟩:=aQ x.args j S;have⟨D,q⟩:∃D,D=(x.args.take j).map (bq L)++x.args.drop j:=⟨_,Q⟩;have qW:cz ((x.args.take j).map (bq L))=j:=by simp;omega
  have hvj:D[j]?=Z v:=by rw[q,fC qW,H]
  have AE:cz D=cz x.args:=by rw[q];simp;omega
  rw[<-q] at w;have⟨d,F⟩:∃d,d=Gs y V {x with args:=D} A:=⟨_,Q⟩;rw[<-F] at w;have a:(ys.set i d)[i]?=Z d:=by rw[fO,bK Q,bK fI]
  have T:d.ls[V]?=Z ({x with args:=D},A):=by rw[F];simp[Gs,OJ]
  have n:=w.k.W.at a;have AV:eM cZ h' A D:=n.ls _ (cO T);have⟨b,cs,o,s,W,hb,n,dD,dg,eQ⟩:=AV.el hvj;have n:=AV.len;rw[AE] at n;have rd:=dg 0 2 ag;simp[-ax] at rd;simp at p;rw[W,n] at p;have Jd:(U.drop 7).take 1=[dB (Z ⟨b,0,K⟩) (cz x.args) A.c]:=by rw[MW];simp[W,n]
  have rX:cy h' X 7 1=Z [dB (Z ⟨b,0,K⟩) (cz x.args) A.c]:=by rw[dx O yP,Jd]
  have n:=G.cg O;have EO:=G.st _ _ _ _ _ O;have lX:=n.lt;have nXn:¬X=h'.aw:=ab
  have lb:=G.wf _ _ hb;simp[q3,qX,p,ql,f,S,rd,rX,n,nXn,-ax,aH,cn,bj,aI];refine bS.cut (λp=>ay aR h' p) ((ay.refl G).var _ _).tick ?_;intro p I;have w2:=w.cm I;have dy:=I.get G O;have rC:=I.get G hb;refine bS.call (V:=KY N nb aF _ v p) (aj (vN I.ok w2.k.w (t.at (cO H)) k.Re)) ?_;rintro _ n⟨M,O,rfl⟩;have E:=w2.nm M O;have O:cK B (ys.set i d) b:=⟨Z (i,.X V),by rw[cC a,YB.kY T];exact cD W⟩;have G:¬Dc N nb b:=λe=>by rcases e with e|e;exact w.k.nN (e▸O);exact w.k.nb (e▸O)
  have dK:=M.get I.ok dy nX;have p:=M.get I.ok rC G;have G:=dD 0 2 ag;simp at G;have O:C<=h'.clock+1:=ab
  have⟨u,eu⟩:∃u,u=bq (dz (dz l (tJ (x.args.take j))) (kq v)) v:=⟨_,Q⟩;rw[<-eu];simp[qX,dK,O,S,p,G,f,wj];have O:=bc (off:=j*2) (vs:=[br u.1,aA ft u.2]) M.ok p;have A4:=eQ u 0 [br u.1,aA ft u.2] J rfl (put n b (j*2) cs [br u.1,aA ft u.2] o) ⟨n.clock,J⟩;generalize put n b (j*2) cs [br u.1,aA ft u.2] o=h4 at*;have n:=E.k.W.at a;have p:eM ia h4 d.L (d.ls.set V ({x with args:=D.set j u},A)):=by refine(n.L.go M.ok O λc G e=>?_).YS ?_;have:=E.k.W.KO a .L (.X V) c e (by rw[YB.kY T,G];exact cD W);cases this;rw[cL];have:d.ls.map ia.enc=(d.ls.map ia.enc).set V (ia.enc ({x with args:=D},A)):=(Bo (by rw[gM,T];rfl)).symm;rw[this,xh];rfl
  have n:=(cV.refl E.k.W M.ok).ins (p':=({x with args:=D.set j u},A)) E.x (av E.g.aw) a T (O.cU (λc _ e=>jZ ⟨.X V,kd Q,by rw[YB.kY T,e];exact cD W⟩)) p A4 (λc G=>jZ G);have a:=E.kz n;rw[xh] at a;have G:=CV (f:=kq) H hL;have O:u=bq L v:=by rw[eu];exact xu G (λr t=>tU _ _ t)
  have n:({ d with ls:=d.ls.set V ({x with args:=D.set j u},A) } :YB)=Gs y V {x with args:=(x.args.take (j+1)).map (bq L)++x.args.drop (j+1)} A:=by rw[F,q];unfold Gs;dsimp only;rw[xh,set_drop qW H,O,kh,H,aL];rfl
  rw[n] at a;refine⟨cz x.args-(j+1),ab,j+1,Q,S,?_,J,by unfold tJ at a⊢;rw[kB H];exact a⟩
  exact aq
 .have:j=cz x.args:=ab
  subst this;rw[mO,bE,Bx] at w;simp[ql,f];exact C' _ _ (aG.set P) w
def WrZ(h:az)(n0:Nat)(B:SV)(ys:List YB)(N nb aF:Nat)(l L:List Int)(i V:Nat)(y:YB)(d:Int)(row:List (Bool×Int))(A:SV)(e:Env)(m:Nat)(a:Env)(h':az):Prop:=
 ∃j:Nat,m=cz row-j/\j<=cz row/\aG WrL e a/\bC a 129 j/\WZ h h' n0 B ys (ys.set i (gW y V d A ((row.take j).map (bq L)++row.drop j))) N nb aF (dz l (tJ (row.take j)))
def apZ(S:cu h)(k:NZ h n0 B ys N nb aF l)(P:xS B ys)(f:n0<=h.aw){L:List Int}{d:Int}(n:ys[i]?=Z y)(O:y.ps[V]?=Z (⟨d,row⟩,A))(hL:dz l (tJ row) <+: L)(t:vP aF (tJ row))(a:cz row<=1048576)(q:eR h X U C)(oX:¬cK B ys X)(nX:¬Dc N nb X)(MW:(U.drop 1).take 1=[A.v])(f3:bU e 3 N)(p:bU e 16 X)(a:bY e 127=A.v)(x:bC e 128 (cz row))(F:bC e 129 0)(C':∀T h',aG WrL e T->WZ h h' n0 B ys (ys.set i (gW y V d A (row.map (bq L)))) N nb aF (dz l (tJ row))->z (.exit 14) T h'):aK FF (.loop sJ) e h z:=by
 have fI:=(cY.mp n).1;have OJ:=(cY.mp O).1;have w:ys.set i (gW y V d A ((row.take 0).map (bq L)++row.drop 0))=ys:=by
  have:gW y V d A ((row.take 0).map (bq L)++row.drop 0)=y:=by unfold gW;rw[show y.ps.set V (⟨d,(row.take 0).map (bq L)++row.drop 0⟩,A)=y.ps from Bo O]
  rw[this];exact Bo n
 refine aK.loop (WrZ h n0 B ys N nb aF l L i V y d row A e) ?_ (n:=cz row) ⟨0,Q,ab,aG.refl _ _,F,by rw[w];exact .refl k P f S⟩;rintro m T h'⟨j,rfl,T,P,f,w⟩;have g:=w.g;have G:=g.ok;have q3:=P.at f3;have qX:=P.at p;have p:=P.at a;have ql:=P.at x;have O:=g.get S q (λe=>e.elim oX nX);have n:=S.wf _ _ q;have yP:1+1<=cz U:=by have:=congrArg bW MW;simp at this;omega
 unfold sJ;by_cases S:j<cz row
 .have wj:=ch ((j:Int)+1) ab ab;have⟨v,H⟩:=aQ row j S;have⟨E,x⟩:∃E,E=(row.take j).map (bq L)++row.drop j:=⟨_,Q⟩;have qW:cz ((row.take j).map (bq L))=j:=by simp;omega
  have hvj:E[j]?=Z v:=by rw[x,fC qW,H]
  have AE:cz E=cz row:=by rw[x];simp;omega
  rw[<-x] at w;have⟨D,F⟩:∃D,D=gW y V d A E:=⟨_,Q⟩;rw[<-F] at w;have W:(ys.set i D)[i]?=Z D:=by rw[fO,bK Q,bK fI]
  have T:D.ps[V]?=Z (⟨d,E⟩,A):=by rw[F];simp[gW,OJ]
  have a:=w.k.W.at W;have n:eM cZ h' A E:=a.ps _ (cO T);have⟨b,cs,o,s,q,hb,a,dD,dg,eQ⟩:=n.el hvj;have a:=n.len;rw[AE] at a;have n:=dg 0 2 ag;simp[-ax] at n;simp at p;rw[q,a] at p;have Jd:(U.drop 1).take 1=[dB (Z ⟨b,0,K⟩) (cz row) A.c]:=by rw[MW];simp[q,a]
  have rX:cy h' X 1 1=Z [dB (Z ⟨b,0,K⟩) (cz row) A.c]:=by rw[dx O yP,Jd]
  have a:=G.cg O;have EO:=G.st _ _ _ _ _ O;have lX:=a.lt;have nXn:¬X=h'.aw:=ab
  have lb:=G.wf _ _ hb;simp[q3,qX,p,ql,f,S,n,rX,a,nXn,-ax,aH,cn,bj,aI];refine bS.cut (λp=>ay aR h' p) ((ay.refl G).var _ _).tick ?_;intro p I;have w2:=w.cm I;have dy:=I.get G O;have rC:=I.get G hb;refine bS.call (V:=KY N nb aF _ v p) (aj (vN I.ok w2.k.w (t.at (cO H)) k.Re)) ?_;rintro _ n⟨M,O,rfl⟩;have a:=w2.nm M O;have O:cK B (ys.set i D) b:=⟨Z (i,.R V),by rw[cC W,YB.jr T];exact cD q⟩;have G:¬Dc N nb b:=λe=>by rcases e with e|e;exact w.k.nN (e▸O);exact w.k.nb (e▸O)
  have dK:=M.get I.ok dy nX;have p:=M.get I.ok rC G;have G:=dD 0 2 ag;simp at G;have O:C<=h'.clock+1:=ab
  have⟨u,eu⟩:∃u,u=bq (dz (dz l (tJ (row.take j))) (kq v)) v:=⟨_,Q⟩;rw[<-eu];simp[qX,dK,O,S,p,G,f,wj];have O:=bc (off:=j*2) (vs:=[br u.1,aA ft u.2]) M.ok p;have A4:=eQ u 0 [br u.1,aA ft u.2] J rfl (put n b (j*2) cs [br u.1,aA ft u.2] o) ⟨n.clock,J⟩;generalize put n b (j*2) cs [br u.1,aA ft u.2] o=h4 at*;have p:=a.k.W.at W;have n:eM jf h4 D.P (D.ps.set V (⟨d,E.set j u⟩,A)):=by refine(p.P.go M.ok O λc G e=>?_).YS ?_;have:=a.k.W.KO W .P (.R V) c e (by rw[YB.jr T,G];exact cD q);cases this;rw[cL];have:D.ps.map jf.enc=(D.ps.map jf.enc).set V (jf.enc (⟨d,E⟩,A)):=(Bo (by rw[gM,T];rfl)).symm;rw[this,xh];rfl
  have p:=(cV.refl a.k.W M.ok).row (p':=(⟨d,E.set j u⟩,A)) (av a.g.aw) W T (O.cU (λc _ e=>jZ ⟨.R V,kd Q,by rw[YB.jr T,e];exact cD q⟩)) n A4 (λc G=>jZ G);have n:=a.kz p;rw[xh] at n;have G:=CV (f:=kq) H hL;have a:u=bq L v:=by rw[eu];exact xu G (λr t=>tU _ _ t)
  have O:({D with ps:=D.ps.set V (⟨d,E.set j u⟩,A)} :YB)=gW y V d A ((row.take (j+1)).map (bq L)++row.drop (j+1)):=by rw[F,x];unfold gW;dsimp only;rw[xh,set_drop qW H,a,kh,H,aL];rfl
  rw[O] at n;refine⟨cz row-(j+1),ab,j+1,Q,S,?_,J,by unfold tJ at n⊢;rw[kB H];exact n⟩
  exact aq
 .have:j=cz row:=ab
  subst this;rw[mO,bE,Bx] at w;simp[ql,f];exact C' _ _ (aG.set P) w
end
def vG(p:GP):List Int:=[p.dst]++tJ p.row
def Eu(L:List Int)(p:GP):GP:=⟨aV L p.dst,p.row.map (bq L)⟩
section
variable{h:az}{n0:Nat}{B:SV}{ys:List YB}{N nb aF:Nat}{l:List Int}
def WpZ(h:az)(n0:Nat)(B:SV)(ys:List YB)(N nb aF:Nat)(l L:List Int)(i:Nat)(y:YB)(e:Env)(m:Nat)(a:Env)(h':az):Prop:=
 ∃(j:Nat) (d:List (GP×SV)),m=cz y.ps-j/\j<=cz y.ps/\cz d=j/\aG WpL e a/\bC a 112 j/\WZ h h' n0 B ys (ys.set i {y with ps:=d++y.ps.drop j}) N nb aF (dz l ((y.ps.take j).flatMap λq=>vG q.1))/\d.map (·.1)=((y.ps.map (·.1)).take j).map (Eu L)
def aed(A:cu h)(k:NZ h n0 B ys N nb aF l)(w:xS B ys)(b:n0<=h.aw){L:List Int}(t:ys[i]?=Z y)(hL:dz l (y.ps.flatMap λq=>vG q.1) <+: L)(hr:vP aF (y.ps.flatMap λq=>vG q.1))(p:cz y.ps<=1048576)(zI:∀q∈y.ps,cz q.1.row<=1048576)(p:eR h X U C)(oX:¬cK B ys X)(P:¬Dc N nb X)(n:U.take 1=[y.P.v])(d:bU e 3 N)(a:bU e 14 X)(V:bY e 110=y.P.v)(G:bC e 111 (cz y.ps))(S:bC e 112 0)(C':∀x h' F,aG WpL e x->WZ h h' n0 B ys (ys.set i {y with ps:=F}) N nb aF (dz l (y.ps.flatMap λq=>vG q.1))->F.map (·.1)=(y.ps.map (·.1)).map (Eu L)->z (.exit 12) x h'):aK FF (.loop mZ) e h z:=by
 have fI:=(cY.mp t).1;have F:ys.set i {y with ps:=[]++y.ps.drop 0} =ys:=Bo t;refine aK.loop (WpZ h n0 B ys N nb aF l L i y e) ?_ (n:=cz y.ps) ⟨0,[],Q,ab,Q,aG.refl _ _,S,by rw[F];exact .refl k w b A,J⟩;rintro m x h'⟨j,x,rfl,w,F,t,I,w,S⟩;have g:=w.g;have b:=g.ok;have q3:=t.at d;have Q9:=t.at a;have W:=t.at V;have V:=t.at G;have G:=g.get A p (λe=>e.elim oX P);have lX0:=A.wf _ _ p;have A:1<=cz U:=by have:=congrArg bW n;simp at this;omega
 unfold mZ;by_cases A:j<cz y.ps
 .have wj:=ch ((j:Int)+1) ab ab;have⟨q,M⟩:=aQ y.ps j A;have a:=fC (qs:=y.ps) F;rw[M] at a;have⟨D,H⟩:∃D:YB,D= {y with ps:=x++y.ps.drop j} :=⟨_,Q⟩;rw[<-H] at w;have p:(ys.set i D)[i]?=Z D:=by rw[fO,bK Q,bK fI]
  have d:D.ps[j]?=Z q:=by rw[H];exact a
  have R:=w.k.W.at p;have T:eM jf h' y.P D.ps:=by have:=R.P;rw[H] at this⊢;exact this
  have O:cz D.ps=cz y.ps:=by rw[H];simp;omega
  obtain⟨a,r,o,s,r,f,_,f,f,_⟩:=T.el d;have v:=f 0 2 ag;simp[-ax] at v;have f:=T.len;have T:=R.ps q (cO d);have jq:=T.len;have hI:=hr.at (cO M);simp at W;rw[r,f,O] at W;have T:(U.drop 0).take 1=[dB (Z ⟨a,0,K⟩) (cz y.ps) y.P.c]:=by rw[lV,n];simp[r,f,O]
  have n:cy h' X 0 1=Z [dB (Z ⟨a,0,K⟩) (cz y.ps) y.P.c]:=by rw[dx G ab,T]
  have f:=b.cg G;have O:=b.st _ _ _ _ _ G;have O:=f.lt;have O:¬X=h'.aw:=ab
  simp[q3,Q9,W,V,I,A,v,n,f,O,-ax,aH,cn,bj,aI];refine bS.cut (λv=>ay aR h' v/\di v h'.aw [fc ft q.1.dst,dB q.2.a q.2.l q.2.c]) ?_ ?_;exact⟨((ay.refl b).var _ _).tick,h'.clock,by simp[aX]⟩;rintro v⟨f,O,I6⟩;have O:=w.cm f;have dy:=f.get b G;refine bS.call (V:=Q2 N nb aF _ q.1.dst v) (aj (Ak f.ok O.k.w (hI q.1.dst (by simp[vG])) k.Re)) ?_;rintro _ v⟨G,T,rfl⟩;have n:=O.nm G T;have dK:=G.get f.ok dy P;obtain⟨P,P⟩:=w.k.lt b;have P:¬Dc N nb h'.aw:=λe=>by rcases e with e|e<;>omega
  have JX:=G.get f.ok I6 P;have Y3:=n.k.W.at p;have P3:eM jf v y.P D.ps:=by have:=Y3.P;rw[H] at this⊢;exact this
  obtain⟨T,cs3,o3,T,O,T,_,VI,_,VV⟩:=P3.el d;rw[r] at O;cases O;have hf:=VI 0 1 ag;simp at hf;have zq:C<=h'.clock+1:=ab
  have O:D.loc .P=Z a:=by rw[H];exact cD r
  have awg:cK B (ys.set i D) a:=⟨Z (i,.P),by rw[cC p];exact O⟩;have nYP:¬h'.aw=a:=λe=>av (w.k.W.mq b awg)
  have noX:¬cK B (ys.set i D) X:=w.no lX0 oX;have⟨u,eu⟩:∃u,u=aV (ee (dz l ((y.ps.take j).flatMap λq=>vG q.1)) q.1.dst) q.1.dst:=⟨_,Q⟩;rw[<-eu];simp[Q9,dK,zq,A,T,hf,nYP,JX];have r:=bc (off:=j*2) (vs:=[aA ft u]) G.ok T;have T:=VV (⟨u,q.1.row⟩,q.2) 0 [fc ft u] J rfl (put v a (j*2) cs3 [aA ft u] o3) ⟨v.clock,J⟩;have X8:=r.get G.ok JX nYP;have iI:=r.get G.ok dK (λe=>noX (e▸awg));generalize put v a (j*2) cs3 [aA ft u] o3=h4 at*;have a:=f.ok.wf _ _ I6;have f:=G.aw;have f:=r.aw;have a:=Y3.ps q (cO d);have f:=(cV.refl n.k.W G.ok).row (p':=(⟨u,q.1.row⟩,q.2)) (av n.g.aw) p d (r.cU (λc _ e=>jZ ⟨.P,jZ Q,by rw[e];exact O⟩)) (by rw[H] at T⊢;exact T) (a.go G.ok r λc G e=>by have:=n.k.W.KO p .P (.R j) c (by rw[G];exact O) (by rw[YB.jr d];exact e);cases this) (λc G=>jZ G)
  have a:=n.kz f;rw[xh] at a;have⟨G,n⟩:∃G:YB,G= {D with ps:=D.ps.set j (⟨u,q.1.row⟩,q.2)} :=⟨_,Q⟩;rw[<-n] at a;have O:(ys.set i G)[i]?=Z G:=by rw[fO,bK Q,bK fI]
  have p:G.ps[j]?=Z (⟨u,q.1.row⟩,q.2):=by rw[n];simp[(cY.mp d).1]
  have E:=CV (f:=λq:GP×SV=>vG q.1) M hL;unfold vG at E;rw[fp] at E;have d:¬cK B (ys.set i G) h'.aw:=λe=>by rcases(f.s h'.aw (by rw[xh,<-n];exact e)) with h|h;have:=w.k.W.mq b h;omega;omega
  refine apZ a.g.ok a.k a.x (av a.g.aw) O p E hI.snd (zI q (cO M)) X8 d P rfl (au q3) J J (au jq) J ?_;intro P P P d;have b:=P.at (t:=112) (ak I);simp[b,wj];have b:=a.trans d;rw[xh] at b;have d:u=aV L q.1.dst:=by rw[eu];exact(Bk (List.IsPrefix.trans (mj _ _) E) (Ji _ _)).symm
  refine⟨cz y.ps-(j+1),ab,j+1,x++[(Eu L q.1,q.2)],Q,A,au F,?_,J,?_,QP M S⟩
  .refine aG.set (aG.set (aG.trans ?_ (P.cU)))
   exact aq
  .have P:gW G j u q.2 (q.1.row.map (bq L))= {y with ps:=(x++[(Eu L q.1,q.2)])++y.ps.drop (j+1)} :=by rw[n,H];unfold gW Eu;dsimp only;rw[xh,set_drop F M,d]
   rw[P] at b;rw[kB M];unfold vG at b⊢;rw[fp];exact b
 .have:j=cz y.ps:=ab
  subst this;rw[bE,Bx,mO] at w;simp[V,I];exact C' _ _ x (aG.set t) w (by rw[S,tK J])
end
def qL(L:List Int)(x:GI):GI:=⟨x.op,if 0<=x.dst then aV L x.dst else x.dst,bq L x.a,bq L x.b,x.fn,x.args.map (bq L)⟩
section
variable{h:az}{n0:Nat}{B:SV}{ys:List YB}{N nb aF:Nat}{l:List Int}
def ajl(D:cu h)(k:NZ h n0 B ys N nb aF l)(n:xS B ys)(n:n0<=h.aw){x:GI}(U:vP aF (kq x.a))(n:vP aF (kq x.b)){P j h0:Nat}(H:eR h P [fc ft x.op,fc ft x.dst,dC x.a.1,fc ft x.a.2,dC x.b.1,fc ft x.b.2,fc ft x.fn,dB A.a A.l A.c] j)(j:¬cK B ys P)(I:¬Dc N nb P)(b:bU e 3 N)(d:bU e 20 P)(C:∀G h' s,aG WlD e G->ay (λa=>Dc N nb a\/a=P) h h'->NZ h' n0 B ys N nb aF (dz (dz l (kq x.a)) (kq x.b))->h'.tr.get P=Z (.bZ [fc ft x.op,fc ft x.dst,dC (bq (dz l (kq x.a)) x.a).1,fc ft (bq (dz l (kq x.a)) x.a).2,dC (bq (dz (dz l (kq x.a)) (kq x.b)) x.b).1,fc ft (bq (dz (dz l (kq x.a)) (kq x.b)) x.b).2,fc ft x.fn,dB A.a A.l A.c] cd 0 s)->z .normal G h'):aK FF abo e h z:=by
 have W:=D.cg H;have w:=D.st _ _ _ _ _ H;unfold abo;simp[b,d,H,aB H,W];have G:=(bk D).ok;have b:ay aR h (tick h):=bk D;generalize tick h=h1 at G b⊢;have f:=k.cm D b;have p:=b.get D H;refine bS.call (V:=KY N nb aF l x.a h1) (aj (vN G f.w U k.Re)) ?_;rintro _ g⟨m,q,rfl⟩;have i:=f.step G m q;have f:=m.get G p I;simp[d,f,w];refine bS.call (V:=KY N nb aF _ x.b g) (aj (vN m.ok i.w n k.Re)) ?_;rintro _ g⟨E,w,rfl⟩;have G:=i.step m.ok E w;have i:=E.get m.ok f I;simp[d,i];have⟨u,f⟩:∃u,u=bq (dz l (kq x.a)) x.a:=⟨_,Q⟩;have⟨w,d⟩:∃u,u=bq (dz (dz l (kq x.a)) (kq x.b)) x.b:=⟨_,Q⟩;rw[<-f,<-d] at C⊢;have M:=((ay.refl E.ok).put (S:=(· =P)) (off:=2) (vs:=[br u.1,aA ft u.2]) ⟨_,i⟩ (kd Q)).put (b:=P) (off:=4) (cs:=[fc ft x.op,fc ft x.dst,dC u.1,fc ft u.2,dC x.b.1,fc ft x.b.2,fc ft x.fn,dB A.a A.l A.c]) (o:=0) (vs:=[br w.1,aA ft w.2]) ⟨g.clock,by simp[aX]⟩ (kd Q);refine C _ _ (g.clock+1) ?_ ?_ ?_ ?_
 .repeat (refine aG.set ?_)
  exact aG.refl _ _
 exact((b.cm.trans (m.cU (λa _ h=>jZ h))).trans (E.cU (λa _ h=>jZ h))).trans (M.cU (λa _ h=>kd h));exact⟨G.W.go E.ok M (λc o a e=>j ⟨o,a▸e⟩),G.w.go E.ok M (λe=>I (jZ e.symm)) (λe=>I (kd e.symm)),G.nN,G.nb,G.Re⟩;rw[aZ];rfl
def XU(E:cu h)(k:NZ h n0 B ys N nb aF l)(n:xS B ys)(f:n0<=h.aw)(a:ys[i]?=Z y){x x':GI}(m:y.ls[j]?=Z (x,A))(rB:x'.args=x.args)(g:eR h X U C)(b:(U.drop 1).take 1=[y.L.v]){P G:Nat}(L:eR h P (ia.enc (x',A)) G)(I:bU e 14 X)(G:bC e 19 j)(O:bU e 20 P)(p:∀V h',aG [185,186,187,188,189] e V->WZ h h' n0 B ys (ys.set i (Gs y j x' A)) N nb aF l->z .normal V h'):aK FF abn e h z:=by
 have R:=k.W.at a;have⟨w,t,o,s,u,d,_,r,_,q⟩:=R.L.el m;have S:=(cY.mp m).1;have T:=R.L.len;have F:1+1<=cz U:=by have:=congrArg bW b;simp at this;omega
 have v:(U.drop 1).take 1=[dB (Z ⟨w,0,K⟩) (cz y.ls) y.L.c]:=by rw[b];simp[u,T]
 have b:cy h X 1 1=Z [dB (Z ⟨w,0,K⟩) (cz y.ls) y.L.c]:=by rw[dx g F,v]
 have W:=r 0 8 ag;simp at W;have D:=L;simp only[Mr] at D;simp at D;have g:y.loc .L=Z w:=cD u;unfold abn;simp[I,G,O,b,D,aB D,S,d,W,-ax];have b:=bc (off:=j*8) (vs:=[aA ft x'.op,fc ft x'.dst,dC x'.a.1,fc ft x'.a.2,dC x'.b.1,fc ft x'.b.2,fc ft x'.fn,dB A.a A.l A.c]) E d;have H:=q (x',A) 0 [aA ft x'.op,fc ft x'.dst,dC x'.a.1,fc ft x'.a.2,dC x'.b.1,fc ft x'.b.2,fc ft x'.fn,dB A.a A.l A.c] J rfl (put h w (j*8) t [aA ft x'.op,fc ft x'.dst,dC x'.a.1,fc ft x'.a.2,dC x'.b.1,fc ft x'.b.2,fc ft x'.fn,dB A.a A.l A.c] o) ⟨h.clock,J⟩;have t:eM cZ h A x.args:=R.ls _ (cO m);have w:=(cV.refl k.W E).ins (p':=(x',A)) n f a m (b.cU (λc _ e=>jZ ⟨.L,jZ Q,by rw[e];exact g⟩)) H (by show eM cZ _ A x'.args;rw[rB];exact t.go E b λc M e=>by have:=k.W.KO a .L (.X j) c (by rw[M];exact g) (by rw[YB.kY m];exact e);cases this) (λc M=>jZ M)
 refine p _ _ ?_ ((WZ.refl k n f E).kz w)
 repeat (refine aG.set ?_)
 exact aG.refl _ _
def WlZ(h:az)(n0:Nat)(B:SV)(ys:List YB)(N nb aF:Nat)(l L:List Int)(i:Nat)(y:YB)(e:Env)(m:Nat)(a:Env)(h':az):Prop:=
 ∃(j:Nat) (d:List (GI×SV)),m=cz y.ls-j/\j<=cz y.ls/\cz d=j/\aG VK e a/\bC a 146 j/\WZ h h' n0 B ys (ys.set i {y with ls:=d++y.ls.drop j}) N nb aF (dz l ((y.ls.take j).flatMap λq=>CD q.1))/\d.map (·.1)=((y.ls.map (·.1)).take j).map (qL L)
def aec(b:cu h)(k:NZ h n0 B ys N nb aF l)(w:xS B ys)(hn:n0<=h.aw){L:List Int}(V:ys[i]?=Z y)(d:dz l (y.ls.flatMap λq=>CD q.1) <+: L)(a:vP aF (y.ls.flatMap λq=>CD q.1))(S:cz y.ls<=1048576)(al:∀q∈y.ls,cz q.1.args<=1048576)(S:eR h X U C)(t:¬cK B ys X)(r:¬Dc N nb X)(MW:(U.drop 1).take 1=[y.L.v])(F:bU e 3 N)(n:bU e 14 X)(P:bY e 144=y.L.v)(f:bC e 145 (cz y.ls))(G:bC e 146 0)(C':∀v h' p,aG VK e v->WZ h h' n0 B ys (ys.set i {y with ls:=p}) N nb aF (dz l (y.ls.flatMap λq=>CD q.1))->p.map (·.1)=(y.ls.map (·.1)).map (qL L)->z (.exit 16) v h'):aK FF (.loop mY) e h z:=by
 have fI:=(cY.mp V).1;have p:ys.set i {y with ls:=[]++y.ls.drop 0} =ys:=Bo V;refine aK.loop (WlZ h n0 B ys N nb aF l L i y e) ?_ (n:=cz y.ls) ⟨0,[],Q,ab,Q,aG.refl _ _,G,by rw[p];exact .refl k w hn b,J⟩;rintro m v h'⟨j,v,rfl,w,hd,p,V,w,Md⟩;have g:=w.g;have G:=g.ok;have T:=p.at F;have Q9:=p.at n;have n:=p.at P;have awo:=p.at f;have f:=g.get b S (λe=>e.elim t r);have lX0:=b.wf _ _ S;unfold mY;by_cases bg:j<cz y.ls
 .have wj:=ch ((j:Int)+1) ab ab;have⟨q,W⟩:=aQ y.ls j bg;have⟨x,A⟩:=q;have P:=fC (qs:=y.ls) hd;rw[W] at P;have⟨D,b⟩:∃D:YB,D= {y with ls:=v++y.ls.drop j} :=⟨_,Q⟩;rw[<-b] at w;have xX:(ys.set i D)[i]?=Z D:=by rw[fO,bK Q,bK fI]
  have S:D.ls[j]?=Z (x,A):=by rw[b];exact P
  have R:=w.k.W.at xX;have P:eM ia h' y.L D.ls:=by have:=R.L;rw[b] at this⊢;exact this
  have KI:cz D.ls=cz y.ls:=by rw[b];simp;omega
  obtain⟨F,F,o,s,ha,F,_,F,F,_⟩:=P.el S;have O:=F 0 8 ag;simp[-ax] at O;have jD:=P.len;have P:eM cZ h' A x.args:=R.ls _ (cO S);have jq:=P.len;have P:=a.at (cO W);have u:=CV (f:=λq:GI×SV=>CD q.1) W d;have⟨d,F⟩:∃d,d=dz l ((y.ls.take j).flatMap λq=>CD q.1):=⟨_,Q⟩;rw[<-F] at w u;have I:=kB (f:=λq:GI×SV=>CD q.1) W l;rw[<-F] at I;dsimp only at u I;unfold CD at u I;rw[fp,fp,fp] at u I;have p3:=List.IsPrefix.trans (mj _ _) u;have F:=List.IsPrefix.trans (mj _ _) p3;have p1:=List.IsPrefix.trans (mj _ _) F;have KH:bq (dz d (kq x.a)) x.a=bq L x.a:=xu p1 (λr' a=>tU _ _ a);have gY:bq (dz (dz d (kq x.a)) (kq x.b)) x.b=bq L x.b:=xu F (λr' a=>tU _ _ a);simp at n;rw[ha,jD,KI] at n;simp[n,awo,V,bg,O,-ax,aH];refine aK.cut (λa=>ay aR h' a/\di a h'.aw [fc ft x.op,fc ft x.dst,dC x.a.1,fc ft x.a.2,dC x.b.1,fc ft x.b.2,fc ft x.fn,dB A.a A.l A.c]) ?_ ?_
  exact⟨(ay.refl G).var _ _,h'.clock,by simp[aX]⟩;rintro a⟨a,O,O⟩;have M:=w.cm a;have dy:=a.get G f;obtain⟨n,n⟩:=w.k.lt G;have n:=G.wf _ _ f;have f:=a.ok.wf _ _ O;have n:=g.aw;have n:¬Dc N nb h'.aw:=λe=>by rcases e with e|e<;>omega
  have F:¬cK B (ys.set i D) h'.aw:=λe=>av (w.k.W.mq G e)
  have noX:¬cK B (ys.set i D) X:=w.no lX0 t;refine ajl a.ok M.k M.x (by have:=M.g.aw;have:=M.n0;omega) (h0:=0) P.fst P.snd.fst O F n (au T) J ?_;intro O h3 t G f k3 t;rw[KH,gY] at t;have dK:=f.get a.ok dy (λe=>by rcases e with e|e;exact r e;omega);have a3:=G.at (t:=3) (ak T);have a14:=G.at (t:=14) (ak Q9);have a19:bY O 19=fc ft j:=G.at J;have T:bU O 20 h'.aw:=G.at J;have a146:=G.at (t:=146) (ak V);have a:aG VK e O:=by
   refine aG.trans ?_ (G.cU)
   exact aq
  have G:=f.aw;have W3:WZ h h3 n0 B ys (ys.set i D) N nb aF (dz (dz d (kq x.a)) (kq x.b)):=⟨k3,M.x,hn,w.s,M.g.trans' f ai λc G e=>by rcases e with e|e;exact kd e;omega⟩
  simp[T,t];refine apY f.ok k3 M.x (av M.g.aw) (L:=L) xX S p3 P.snd.snd.fst (al _ (cO W)) t F n rfl (au a3) (by simp[T]) J (au jq) J ?_;intro e4 h4 a G;have O:=G.g.get f.ok t (λe=>e.elim F n);have iI:=G.g.get f.ok dK (λe=>e.elim noX r);have b3:=a.at (t:=3) (ak a3);have b14:=a.at (t:=14) (ak a14);have b19:=a.at (t:=19) (ak a19);have E:=a.at (t:=20) (ak T);have T:=a.at (t:=146) (ak a146);have f:aG VK e e4:=by
   refine aG.trans ?_ (a.cU)
   exact aq
  have a:=W3.trans G;rw[xh] at a;have f:=G.g.aw;have⟨H,f⟩:∃H:YB,H=Gs D j {x with args:=x.args.map (bq L)} A:=⟨_,Q⟩;rw[<-f] at a G;have hy2:(ys.set i H)[i]?=Z H:=by rw[fO,bK Q,bK fI]
  have hq2:H.ls[j]?=Z ({x with args:=x.args.map (bq L)},A):=by rw[f];simp[Gs,(cY.mp S).1]
  have oY2:¬cK B (ys.set i H) h'.aw:=λe=>by have:=G.s h'.aw (by rw[xh];exact e);rcases this with h|h;exact F h;omega
  have F:H.L=y.L:=by rw[f,b];rfl
  have avz:(U.drop 1).take 1=[H.L.v]:=by rw[F];exact MW
  have S:∀F:GI,Gs H j F A= {y with ls:=(v++[(F,A)])++y.ls.drop (j+1)} :=λF=>by rw[f,b];unfold Gs;dsimp only;rw[xh,set_drop hd W]
  have t:∀(b:Env)(F:az),aG VK e b->WZ h F n0 B ys (ys.set i (Gs H j (qL L x) A)) N nb aF (dz l ((y.ls.take (j+1)).flatMap λq=>CD q.1))->∃m,m<cz y.ls-j/\WlZ h n0 B ys N nb aF l L i y e m (Tr.set (Tr.set b 190 (fc ft ((j:Int)+1))) 146 (fc ft ((j:Int)+1))) F:=by intro b F f b;rw[S] at b;exact⟨cz y.ls-(j+1),ab,j+1,v++[(qL L x,A)],Q,bg,au hd,aG.set (aG.set f),J,b,QP W Md⟩
  by_cases b:0<=x.dst
  .rw[bK b,ah4] at u I;have f:=P.snd.snd.snd;rw[bK b] at f;simp[b3,E,O,b];refine bh.call (V:=Q2 N nb aF _ x.dst h4) (aj (Ak G.g.ok G.k.w (f x.dst J) k.Re)) ?_;rintro _ P⟨f,S,rfl⟩;have V5:=a.nm f S;have S:=f.get G.g.ok O n;have jQ:=f.get G.g.ok iI r;have G:aV (ee (dz (dz (dz d (kq x.a)) (kq x.b)) (tJ x.args)) x.dst) x.dst=aV L x.dst:=(Bk u (Ji _ _)).symm;rw[G];simp[E,S];have G:=(ay.refl f.ok).put (S:=(· =h'.aw)) (off:=1) (vs:=[aA ft (aV L x.dst)]) ⟨_,S⟩ (kd Q);have r:∃s,(put P h'.aw 1 [fc ft x.op,fc ft x.dst,dC (bq L x.a).1,fc ft (bq L x.a).2,dC (bq L x.b).1,fc ft (bq L x.b).2,fc ft x.fn,dB A.a A.l A.c] [aA ft (aV L x.dst)] 0).tr.get h'.aw=Z (.bZ (ia.enc (qL L x,A)) cd 0 s):=⟨P.clock,by rw[aZ];unfold qL;simp[b]⟩;have S:=G.get f.ok jQ ab;have d:=V5.box G ab oY2 n;generalize put P h'.aw 1 _ _ 0=F at*;have⟨F,r⟩:=r;refine XU d.g.ok d.k d.x (av d.g.aw) hy2 hq2 (x':=qL L x) rfl S avz r (au b14) (au b19) (au E) ?_;intro F r n P;have f:=d.trans P;rw[xh] at f;have d:=n.at (t:=146) (ak T);simp[d,wj];refine t F r ?_ (by unfold CD;rw[I];exact f);refine aG.trans ?_ (n.cU)
   exact aq
  .rw[bM b] at u I;simp[E,O,b];have G:qL L x=⟨x.op,x.dst,bq L x.a,bq L x.b,x.fn,x.args.map (bq L)⟩:=by unfold qL;rw[bM b]
   refine XU a.g.ok a.k a.x (av a.g.aw) hy2 hq2 (x':=qL L x) rfl iI avz (by rw[G];exact O) (au b14) (au b19) (au E) ?_;intro F r n P;have f:=a.trans P;rw[xh] at f;have d:=n.at (t:=146) (ak T);simp[d,wj];refine t F r ?_ (by unfold CD;rw[I];exact f);refine aG.trans ?_ (n.cU)
   exact aq
 .have:j=cz y.ls:=ab
  subst this;rw[bE,Bx,mO] at w;simp[awo,V];exact C' _ _ v (aG.set p) w (by rw[Md,tK J])
end
def Gy(b:GB):List Int:=b.bz.flatMap vG++(b.list.flatMap CD++kq b.on)
def Aw(L:List Int)(b:GB):GB:=⟨b.bz.map (Eu L),b.list.map (qL L),b.kind,bq L b.on,b.to⟩
def agz(y:YB):Gy y.g=(y.ps.flatMap λq=>vG q.1)++((y.ls.flatMap λq=>CD q.1)++kq y.on):=by unfold Gy YB.g;rw[List.flatMap_map,List.flatMap_map]
section
variable{h:az}{n0:Nat}{B:SV}{ys:List YB}{N nb aF:Nat}{l:List Int}
def FZ.on{h':az}{m:Nat}(w:FZ h n0 B ys)(G:cu h)(M:n0<=h.aw){i:Nat}{y:YB}(E:ys[i]?=Z y)(H:B.a=Z ⟨m,0,K⟩)(g:ay (· =m) h h'){u:Bool×Int}(k:eM eF h' B (ys.set i {y with on:=u})):cV h h' n0 B ys B (ys.set i {y with on:=u}):=by
 have P:=w.at E;have j:∀c,c=m->∀o,dV B ys o=Z c->o=K:=λc d o C=>(w.tQ K o c (by rw[d];exact cD H) C).symm;have no:∀c l,c=m->y.loc l≠Z c:=λc l d e=>by have:=j c d (Z (i,l)) (by rw[cC E];exact e);cases this
 have b:=P.go G g no;have D:∀l,({y with on:=u} :YB).loc l=y.loc l:=λl=>by cases l<;>rfl
 have⟨a,f,c⟩:=w.py G g M E (λc d o C=>jZ (j c d o C)) k ⟨b.P,b.L,b.T,b.ps,b.ls⟩ (λp d a f c h1 b=>d a f c (by rw[<-D a];exact h1) (by rw[<-D f];exact b)) (λl c I=>jZ ⟨l,by rw[<-D l];exact I,id⟩);exact⟨a,f,g.cU λx _ e=>⟨K,by rw[e];exact cD H⟩,c⟩
def ajk(d:cu h)(k:NZ h n0 B ys N nb aF l)(i:xS B ys)(r:n0<=h.aw)(w:ys[j]?=Z y)(q:vP aF (kq y.on))(a:eR h F (aC name p rg B) M)(G:¬cK B ys F)(G:¬Dc N nb F){P L T:aa}{f:Int}(b:eR h X [P,L,fc ft f,dC y.on.1,fc ft y.on.2,T] C)(f:bU e 1 F)(s:bU e 3 N)(t:bC e 13 j)(x:bU e 14 X)(c:∀g h',aG WbD e g->WZ h h' n0 B ys (ys.set j {y with on:=bq (dz l (kq y.on)) y.on}) N nb aF (dz l (kq y.on))->z .normal g h'):aK FF abk e h z:=by
 have n:=(cY.mp w).1;obtain⟨A,g,g,g,I,g,_,g,g,_⟩:=k.W.A.el w;have g:=k.W.A.len;have m:=a;simp[aC] at m;rw[I,g] at m;have T:=d.cg a;have v:=d.cg b;have g:=d.st _ _ _ _ _ a;unfold abk;simp[f,s,t,x,m,b,aB m,aB b,T,v];have W:=(bk d).ok;have a:ay aR h (tick h):=bk d;generalize tick h=h1 at W a⊢;have b:=(WZ.refl k i r d).cm a;have i:=a.get d m;refine bS.call (V:=KY N nb aF _ y.on h1) (aj (vN W b.k.w q k.Re)) ?_;rintro _ d⟨o,q,rfl⟩;have D:=b.nm o q;have q:=o.get W i G;obtain⟨G,E,H,G,b,a,_,G,_,U⟩:=D.k.W.A.el w;rw[I] at b;cases b;have b:=G 3 2 ag;simp at b;have⟨u,G⟩:∃u,u=bq (dz l (kq y.on)) y.on:=⟨_,Q⟩;rw[<-G] at c⊢;simp[f,q,g,n,a,b];have b:=bc (off:=j*6+3) (vs:=[br u.1,aA ft u.2]) o.ok a;have a:=U {y with on:=u} 3 [br u.1,aA ft u.2] J rfl (put d A (j*6+3) E [br u.1,aA ft u.2] H) ⟨d.clock,J⟩;refine c _ _ ?_ (D.kz (D.k.W.on o.ok (av D.g.aw) w I b a))
 repeat (refine aG.set ?_)
 exact aG.refl _ _
def az3(h:az)(n0:Nat)(B:SV)(ys:List YB)(N nb aF:Nat)(l L:List Int)(F:Nat)(v2:aa)(m:Nat)(a:Env)(h':az):Prop:=
 ∃(j:Nat) (d:List YB),m=cz ys-j/\j<=cz ys/\cz d=j/\bU a 1 F/\bY a 2=v2/\bU a 3 N/\bY a 102=B.v/\bC a 103 (cz ys)/\bC a 104 j/\WZ h h' n0 B ys (d++ys.drop j) N nb aF (dz l ((ys.take j).flatMap λy=>Gy y.g))/\d.map YB.g=((ys.map YB.g).take j).map (Aw L)
def WG(x:cu h)(k:NZ h n0 B ys N nb aF l)(t:xS B ys)(r:n0<=h.aw){L:List Int}(O:dz l (ys.flatMap λy=>Gy y.g) <+: L)(X:vP aF (ys.flatMap λy=>Gy y.g))(v:cz ys<50)(sz:∀y∈ys,SzZ y)(hF:eR h F (aC name p rg B) M)(oF:¬cK B ys F)(nF:¬Dc N nb F)(v:bU e 1 F)(P:bY e 2=v2)(a:bU e 3 N)(n:bY e 102=B.v)(T:bC e 103 (cz ys))(A:bC e 104 0)(C':∀w h' u,bU w 1 F->bY w 2=v2->bU w 3 N->WZ h h' n0 B ys u N nb aF (dz l (ys.flatMap λy=>Gy y.g))->u.map YB.g=(ys.map YB.g).map (Aw L)->z (.exit 10) w h'):aK FF (.loop sO) e h z:=by
 refine aK.loop (az3 h n0 B ys N nb aF l L F v2) ?_ (n:=cz ys) ⟨0,[],Q,ab,Q,v,P,a,n,T,A,.refl k t r x,J⟩;rintro m w h'⟨j,A,rfl,w,P,q1,q2,t,D,n,W,w,Md⟩;have g:=w.g;have v:=g.ok;have lF:=x.wf _ _ hF;unfold sO;by_cases T:j<cz ys
 .have wj:=ch ((j:Int)+1) ab ab;have⟨r,a⟩:=aQ ys j T;have b:=fC (qs:=ys) P;rw[a] at b;have⟨u,U⟩:∃u,u=A++ys.drop j:=⟨_,Q⟩;rw[<-U] at w b;have vS:cz u=cz ys:=by rw[U];simp;omega
  have f:=cO a;have G:=sz r f;have i:=G.p;have i:=G.l;have i:=X.at f;rw[agz] at i;have Q1:=CV (f:=λy:YB=>Gy y.g) a O;have tk:=kB (f:=λy:YB=>Gy y.g) a l;rw[agz,fp,fp] at Q1 tk;have p2:=List.IsPrefix.trans (mj _ _) Q1;have S:=List.IsPrefix.trans (mj _ _) p2;have R:=w.k.W.at b;obtain⟨O,O,o,s,ha,O,_,_,O,_⟩:=w.k.W.A.el b;have f:=O 0 6 ag;simp[-ax] at f;have eo:=w.k.W.A.len;have O:=R.P.len;have jD:=R.L.len;simp at D;rw[ha,eo,vS] at D;simp[D,n,W,T,f,-ax,aH,O];refine aK.cut (λf=>ay aR h' f/\di f h'.aw (Ir r)) ?_ ?_
  exact⟨(ay.refl v).var _ _,h'.clock,by simp[aX,O,Ir]⟩;rintro f⟨f,C,dy⟩;have c:=w.cm f;obtain⟨d,d⟩:=w.k.lt v;have d:=g.aw;have l2:=f.ok.wf _ _ dy;have d:¬Dc N nb h'.aw:=λe=>by rcases e with e|e<;>omega
  have oX:¬cK B u h'.aw:=λe=>av (w.k.W.mq v e)
  refine aed f.ok c.k c.x (av c.g.aw) (L:=L) b S i.fst ab (λq S=>av (G.r q S)) dy oX d rfl (au t) J (au O) J J ?_;intro v b b E H Mq;have a1:=E.at (t:=1) (ak q1);have a2:=E.at (t:=2) (ak q2);have a3:=E.at (t:=3) (ak t);have a13:bY v 13=fc ft j:=E.at J;have O:bU v 14 h'.aw:=E.at J;have aAa:=E.at (t:=102) (ak D);have aAc:=E.at (t:=103) (ak n);have aAd:=E.at (t:=104) (ak W);have v:=H.g.get f.ok dy (λe=>e.elim oX d);have oX3:=H.no l2 oX;have hr3:(u.set j {r with ps:=b})[j]?=Z {r with ps:=b} :=by rw[fO,bK Q,bK ab]
  have f:=v;simp[Ir] at f;have l3:=H.g.aw;simp[O,f];refine aec H.g.ok H.k H.x (av c.g.aw) (L:=L) hr3 p2 i.snd.fst (by show cz r.ls<=_;omega) (λq S=>av (G.a q S)) v oX3 d rfl (au a3) (au O) J (au jD) J ?_;intro G h4 I G f Ml;have b1:=G.at (t:=1) (ak a1);have b2:=G.at (t:=2) (ak a2);have S:=G.at (t:=3) (ak a3);have b13:=G.at (t:=13) (ak a13);have b14:=G.at (t:=14) (ak O);have aAl:=G.at (t:=102) (ak aAa);have O:=G.at (t:=103) (ak aAc);have aAn:=G.at (t:=104) (ak aAd);rw[xh] at f;have hr4:(u.set j {r with ps:=b,ls:=I})[j]?=Z {r with ps:=b,ls:=I} :=by rw[fO,bK Q,bK ab]
  have V3:=c.trans H;have V:WZ h h4 n0 B ys (u.set j {r with ps:=b,ls:=I}) N nb aF _:=V3.trans (by have:=f;exact this)
  have c:=f.g.get H.g.ok v (λe=>e.elim oX3 d);have G:=V.g.get x hF (λe=>e.elim oF nF);have d:=V.no lF oF;simp;refine ajk V.g.ok V.k V.x (av V.g.aw) hr4 i.snd.snd G d nF c b1 S b13 b14 ?_;intro d d G d;have i:=V.trans d;rw[xh] at i;have d:=G.at (t:=104) aAn;have v:=G.at (t:=102) aAl;have x:bq (dz (dz (dz (dz l ((ys.take j).flatMap λy=>Gy y.g)) (r.ps.flatMap λq=>vG q.1)) (r.ls.flatMap λq=>CD q.1)) (kq r.on)) r.on=bq L r.on:=xu Q1 (λr X=>tU _ _ X);simp[d,wj];refine⟨cz ys-(j+1),ab,j+1,A++[{r with ps:=b,ls:=I,on:=bq L r.on}],Q,T,au P,by simp[G.at (t:=1) b1],by simp[G.at (t:=2) b2],by simp[G.at (t:=3) S],by simp[v,ha,eo,vS],by simp[G.at (t:=103) O],J,?_,?_⟩
  rw[<-x,<-set_drop P a,<-U,tk];exact i;rw[aL,Md,kh,gM,a,aL];simp only[xg,List.map_nil,Eo,Option.toList_some];congr 2;unfold Aw YB.g;dsimp only;rw[Mq,Ml]
 .have:j=cz ys:=ab
  subst this;rw[bE,Bx,mO] at w;simp[n,W];exact C' _ _ A (au q1) (au q2) (au t) w (by rw[Md,tK J])
end
def EB.bw(E:EB bs):Ord (cz bs) (eH bs)/\(eH bs)[0]?=Z 0:=by have o:=HW E.ends E.n1;exact⟨⟨o.nd,o.lt⟩,o.zero⟩
def EB.rch(E:EB bs)(k:Nat):k∈eH bs↔Edge.HF (cw bs) k:=by
 have d:cz (cw bs)=cz bs:=by simp[cw]
 have h:=Edge.aiy (tss:=cw bs) (by rw[d];exact E.n1) (λm u t o=>av (E.tok.to m u t o)) k;unfold eH;rw[List.mem_reverse,<-h,d];have:ir bs=Edge.PB (cw bs):=by simp[ir,cw,Edge.PB]
 rw[this]
structure ze(aF:Nat)(bs:List GB):Prop where
 r:∀b∈bs,vP aF (Gy b)
 p:∀b∈bs,cz b.bz<=100000
 l:∀b∈bs,cz b.list<=100000
 a:∀b∈bs,∀x∈b.list,cz x.args<=100000
def aeT{l:List (Int×(Bool×Int))}(h:v∈iP l n):∃x∈l,x.2=v:=by
 unfold iP at h;have⟨b,_,e⟩:=ru.1 h;unfold fE at e;cases d:l.find? λx=>x.1==(b:Int) with
 |none=>rw[d] at e;cases e
 |some x=>rw[d] at e;cases e;exact⟨x,e0 d,Q⟩
def adV{p:GP}(h:v∈(pd f N pk p).row):v∈p.row:=by obtain⟨x,d,rfl⟩:=aeT h;unfold fS at d;have⟨y,m,e⟩:=ru.1 d;split at e;cases e;exact(bV (a:=y.1) (b:=y.2) m).2;cases e
def ze.kept(R:ze aF bs){d:List Nat}(o:Ord (cz bs) d):ze aF (bu bs d):=by
 have w:∀b∈bu bs d,∃X∈bs,∃f N pk,b=eW f N pk X:=λb d=>by unfold bu at d;obtain⟨k,E,rfl⟩:=kC.1 d;have⟨X,m⟩:=aQ bs k (o.lt k E);exact⟨X,cO m,_,_,_,by rw[m];rfl⟩
 refine⟨λb d=>?_,λb d=>?_,λb d=>?_,λb d=>?_⟩<;>obtain⟨X,m,f,N,pk,rfl⟩:=w b d;intro r u;refine R.r X m r ?_;unfold Gy eW at u;rcases kg.1 u with h|h;refine aW _ ?_;have⟨I,C,u⟩:=ba.1 h;obtain⟨p,D,rfl⟩:=kC.1 C;refine ba.2 ⟨p,D,?_⟩;unfold vG at u⊢;rcases kg.1 u with h|h;exact aW _ h;refine af _ ?_;have⟨v,G,H⟩:=ba.1 h;exact ba.2 ⟨v,adV G,H⟩;exact af _ h;simpa [eW] using R.p X m;exact R.l X m;exact R.a X m
def Zc{b:GB}(h:vP aF (Gy b)):vP aF (Sy b):=λr d=>by unfold Sy at d;rcases kg.1 d with h1|h1;obtain⟨p,m,rfl⟩:=kC.1 h1;exact h _ (aW _ (ba.2 ⟨p,m,by simp[vG]⟩));exact h _ (af _ h1)
def Z7{a:List Nat}{b:GB}(h:b∈bu bs a){p:GP}(d:p∈b.bz):cz p.row<=cz a:=by unfold bu at h;obtain⟨k,_,rfl⟩:=kC.1 h;obtain⟨q,_,rfl⟩:=kC.1 d;exact Jr _ _
def qD(p:Nat)(bs:List GB):List Int:=dz (dz (ku p) (bs.flatMap Sy)) (bs.flatMap Gy)
def uB(p:Nat)(bs:List GB):Nat×List GB:=(cz (qD p (bu bs (eH bs))),(bu bs (eH bs)).map (Aw (qD p (bu bs (eH bs)))))
def zd(name:ByteArray)(p:Int)(n0:Nat)(B:SV)(ys:List YB)(r:Nat×List GB)(h:az)(v:aa)(h':az):Prop:=
 ∃(d:SV) (a:List YB),v=ix ⟨aC name p r.1 d⟩/\cV h h' n0 B ys d a/\a.map YB.g=r.2
def WE(j:cu h){name:ByteArray}{p n0 aF:Nat}{B:SV}(N:n0<=h.aw)(W:FZ h n0 B ys)(xi:xS B ys)(E:EB (ys.map YB.g))(R:ze aF (ys.map YB.g))(N:p<=aF)(T:aF<1000000):aY FF 135 [ix ⟨aC name p aF B⟩] h (zd name p n0 B ys (uB p (ys.map YB.g)) h):=by
 have⟨a,g⟩:∃a,a=bu (ys.map YB.g) (eH (ys.map YB.g)):=⟨_,Q⟩;have⟨o,l⟩:=E.bw;have l:=E.n50;have l:=o.len;have l:=R.kept o;have azd:∀b∈a,∀p∈b.bz,cz p.row<=100000:=λb i p N=>av (Z7 (by rw[<-g];exact i) N)
 have G:cz a=cz (eH (ys.map YB.g)):=by rw[g];simp[bu]
 rw[<-g] at l;have G:∀c,h.aw<=c->¬cK B ys c:=λc z h1=>av (W.mq j h1)
 unfold uB;rw[<-g];refine aY.of L8 ?_;unfold Cj;have A:¬h.aw=h.aw+1:=ab
 have F:¬h.aw+1=h.aw:=ab
 simp[aC,A,F];refine bS.cut (λh1=>ay aR h h1/\h1.tr.get h.aw=Z (.bZ (aC name p aF B) cd 0 0)/\(di h1 (h.aw+1) [gX ⟨⟨[]⟩⟩,fc ft 0,fc ft 0,dB K 0 0])) ?_ ?_;exact⟨(((ay.refl j).new _ _).new _ _).tick,by simp[aC,A],⟨0,J⟩⟩;rintro h1⟨w,S,⟨sR,V⟩⟩;have k:=w.ok.wf _ _ S;have k:=w.ok.wf _ _ V;refine bS.call (V:=λv h'=>ay aR h1 h'/\∃L:SV,v=L.v/\bm encI h1.aw h' L.v (xC (ys.map YB.g)).reverse) (by simpa [aC] using Gl w.ok (name:=name) (p:=p) (r:=aF) (W.cm j w).view E.ends E.n1) ?_;rintro _ k⟨d,L,rfl,t⟩;rw[TJ] at t;have O:=w.trans d;have n:=d.get w.ok S;have S:=d.get w.ok V;have w:=W.cm j O;have V:=d.aw;simp[n];refine bS.call (V:=afY name p aF n0 B ys a k) (by rw[g];simpa [aC] using Nd d.ok (name:=name) (p:=p) (r:=aF) w ab E (aj o) t.sl (λ_ b i h=>by have:=t.of i;have:=W.mq j h;omega)) ?_;rintro _ D⟨u,w,rfl,C,t⟩;have g:=C.g.get d.ok n (G _ ab);have CJ:=C.g.get d.ok S (G _ ab);simp[aC] at g;have d:=C.g.aw;have d:¬h.aw=D.aw:=ab
 have n:=C.g.ok.wf _ _ g;have n:=C.g.ok.cg g;have H:∀c,h.aw<=c->c<k.aw->¬cK u w c:=λc h1 k D=>(C.s c D).elim (G c h1) ab;simp[aC,g,d];refine bh.cut (λG=>ay (· =h.aw) D G/\(di G h.aw (aC name p aF u))/\di G D.aw [fc ft (-1)]) ?_ ?_
 have n:=(ay.refl C.g.ok).put (S:=(· =h.aw)) (off:=0) (vs:=[cW name,aA ft p,aA ft aF,bf u.a u.l u.c]) ⟨_,g⟩ (kd Q);exact⟨n.new _ _,⟨D.clock,by simp[aC,d]⟩,⟨0,J⟩⟩;rintro G⟨n,⟨d,r⟩,⟨d,g⟩⟩;refine bh.call (V:=λv h'=>ay aR G h'/\∃d s,v=dB (Z ⟨d,0,K⟩) aF aF/\G.aw<=d/\h'.tr.get d=Z (.bZ (encI.flat (ae aF (-1:Int))) cd 0 s)) (aj (NX n.ok aF T (x:= -1) g)) ?_;rintro _ G⟨g,d,sd,rfl,S,S⟩;have V:=g.get n.ok r;have r:=V;simp[aC] at r;have X:=n.aw;have X:=g.aw;have X:=g.ok.wf _ _ S;have X:¬h.aw=G.aw:=ab
 simp[r,X];refine aK.cut (λr=>ay aR G r/\di r G.aw [dB (Z ⟨d,0,K⟩) aF aF,fc ft 0]) ?_ ?_;exact⟨(ay.refl g.ok).new _ _,0,J⟩;rintro r⟨I,sN,X⟩;have P:=I.get g.ok S;have hF6:=I.get g.ok V;have S:=I.aw;have S:=I.ok.wf _ _ X;have S:ay (· =h.aw) D r:=n.trans (g.trans I).cm;have g:cV h r n0 B ys u w:=(((cV.refl W j).cm O).trans C).go S (λc e=>⟨ab,by rw[e];exact H _ ab ab⟩);have V:=S.get C.g.ok CJ ab;have x6:=g.x xi;have n:∀c,D.aw<=c->¬cK u w c:=λc z h=>av (C.w.mq C.g.ok h)
 have O:ae aF (-1:Int)=(aU aF).map λj:Nat=>aV [] j:=by refine BT λm=>?_;rw[Qp,gM];rcases Kz m aF with h|h;rw[bK h,fj h];rfl;rw[bM ab,xU (aj h)];rfl
 rw[O] at P;have k6:NZ r n0 u w G.aw d aF []:=⟨g.w,⟨⟨sN,X⟩,⟨sd,P⟩,ab,List.Pairwise.nil,λx r=>by simp at r⟩,n _ ab,n _ ab,T⟩;have r:¬Dc G.aw d h.aw:=λe=>by rcases e with e|e<;>omega
 have nR:¬Dc G.aw d (h.aw+1):=λe=>by rcases e with e|e<;>omega
 have O:∀c,Dc G.aw d c->h.aw<=c/\¬cK u w c:=λc e=>by
  have:D.aw<=c:=by rcases e with e|e<;>omega
  exact⟨ab,n c this⟩
 have d:∀f:GB->List Int,(w.flatMap λy=>f y.g)=a.flatMap f:=λf=>by rw[<-t,List.flatMap_map]
 have P:∀y∈w,y.g∈a:=λy G=>by rw[<-t];exact KA G
 have S:vP aF (a.flatMap Gy):=λj n=>by have⟨b,i,h⟩:=ba.1 n;exact l.r b i j h
 have T:vP aF (a.flatMap Sy):=λj n=>by have⟨b,i,h⟩:=ba.1 n;exact Zc (l.r b i) j h
 have sz:∀y∈w,SzZ y:=λy G=>by have i:=P y G;refine⟨by simpa [YB.g] using l.p _ i,by simpa [YB.g] using l.l _ i,λq G=>?_,λq G=>?_⟩;exact azd _ i q.1 (by show q.1∈y.ps.map (·.1);exact KA G);exact l.a _ i q.1 (by show q.1∈y.ls.map (·.1);exact KA G)
 have G:cz w=cz a:=by rw[<-t];simp
 have b:cz w<50:=ab
 have j:=C.w.A.len;refine aas (v1:=eU (Z ⟨h.aw,0,K⟩)) (v2:=eU (Z ⟨h.aw+1,0,K⟩)) I.ok k6 (p:=p) N J J J J J ?_;intro N N N P l M n;have G:=M.get I.ok hF6 r;have i:=G;simp[aC] at i;simp[N,i];refine aar (v1:=eU (Z ⟨h.aw,0,K⟩)) (v2:=eU (Z ⟨h.aw+1,0,K⟩)) M.ok n b sz (by rw[d];exact T) (au N) (au P) (au l) J (au j) J ?_;intro P X N r2 P i n;rw[d] at n;have l:=i.get M.ok G r;have G:=l;simp[aC] at G;simp[N,G];have T:=M.aw;have T:=i.aw;have T:cV h X n0 B ys u w:=(g.go M O).go i O;have g:¬cK u w h.aw:=H _ ab ab;refine WG (L:=qD p a) (v2:=eU (Z ⟨h.aw+1,0,K⟩)) i.ok n x6 ab (by rw[d];exact sM _) (by rw[d];exact S) b sz l g r (au N) (au r2) (au P) J (au j) J ?_;intro j j ws P n b G N;rw[d] at G;have d:cV h j n0 B ys u ws:=T.step G.g (λc z=>z.imp id λe=>(O c e).1) ⟨G.k.W,G.s,λ_=>G.x⟩;have O:=G.g.get i.ok l (λe=>e.elim g r);have r:¬cK u w (h.aw+1):=H _ ab ab;have w:=G.g.get i.ok (i.get M.ok (M.get I.ok V nR) nR) (λe=>e.elim r nR);obtain⟨i,i⟩:=G.k.w.hN;have U:=O;simp[aC] at U;have O:dz (dz (ku p) (a.flatMap Sy)) (a.flatMap Gy)=qD p a:=Q;rw[O] at i;simp[P,n,b,U,i,w,A,F];have A:=((ay.refl G.g.ok).put (S:=λx=>x=h.aw\/x=h.aw+1) (off:=2) (vs:=[aA ft (qD p a).length]) ⟨_,U⟩ (kd (jZ Q))).put (b:=h.aw+1) (off:=0) (cs:=[cW ⟨⟨[]⟩⟩,aA ft 0,aA ft 0,bf K 0 0]) (o:=0) (vs:=[cW name,aA ft p,aA ft (qD p a).length,bf u.a u.l u.c]) ⟨sR,by simp[w,F]⟩ (kd (kd Q));generalize put (put j _ _ _ _ _) _ _ _ _ _=Pm at A⊢;have j:∀c,h.aw<=c->c<k.aw->¬cK u ws c:=λc h1 k D=>(G.s c D).elim (H c h1 k) ab;refine⟨u,ws,by simp[aC],d.go A (λc e=>⟨ab,by rcases e with e|e<;>(rw[e];exact j _ ab ab)⟩),by rw[N,t]⟩
def Es(l:List Int)(a:List GP):List Int:=a.foldl (λl p=>gP l p.row) l
def ad9{a:List GP}{p:GP}(h:a[j]?=Z p):Es l (a.take (j+1))=gP (Es l (a.take j)) p.row:=by unfold Es;rw[kh,h,eE];rfl
def By(l:List Int)(bs:List GB):List Int:=bs.foldl (λl b=>Es l b.bz) l
def aam{b:GB}(h:bs[j]?=Z b):By l (bs.take (j+1))=Es (By l (bs.take j)) b.bz:=by unfold By;rw[kh,h,eE];rfl
section
variable{b h1:az}{n0 S i:Nat}{name:ByteArray}{p r:Int}{B:SV}{ys:List YB}{y:YB}
def aze(h1:az)(S i:Nat)(I:List Int)(y:YB)(m:Nat)(a:Env)(h':az):Prop:=
 ∃(j:Nat) (L:SV),m=cz y.ps-j/\j<=cz y.ps/\bU a 1 S/\bC a 9 i/\bY a 3=L.v/\bC a 10 j/\ay aR h1 h'/\bm encI h1.aw h' L.v (Es I (y.g.bz.take j))
def ad_(U:cu h1)(t:ay aR h1 E)(W:FZ h1 n0 B ys)(H:ys[i]?=Z y)(F:bm encI h1.aw E L0.v I)(A:∀j,cz (Es I (y.g.bz.take j))<50000)(V:∀q∈y.ps,cz q.1.row<50000)(k:cz y.ps<100000)(l:eR h1 S (aC name p r B) D)(T:cz ys<100000)(T:bU e 1 S)(b:bY e 3=L0.v)(x:bC e 9 i)(d:bC e 10 0)(C:∀w h' (L:SV),bU w 1 S->bY w 3=L.v->bC w 9 i->ay aR h1 h'->bm encI h1.aw h' L.v (Es I y.g.bz)->z (.exit 10) w h'):aK FF (.loop n9) e E z:=by
 have n:=W.A.len;have X:=(cY.mp H).1;refine aK.loop (aze h1 S i I y) ?_ (n:=cz y.ps) ⟨0,L0,Q,ab,T,x,b,d,t,by simpa [Es] using F⟩;rintro m w h'⟨j,L,rfl,v,T,k,M,F,g,o⟩;have a:=g.ok;have O:=W.cm U g;have P:=O.at H;have d:=g.get U l;obtain⟨l,N,t,x,s,b,l,_,v,_⟩:=O.A.el H;have G:=v 0 1 ag;simp[-ax] at G;have l:=P.P.len;simp[aC] at d;rw[s,n] at d;unfold n9;by_cases b:j<cz y.ps
 .have n:=ch ((j:Int)+1) ab ab;have⟨q,u⟩:=aQ y.ps j b;have v:y.g.bz[j]?=Z q.1:=by simp[YB.g,u]
  have t:=ad9 (l:=I) v;have x:=P.ps q (cO u);obtain⟨v,N,N,h,h,s,f,_,N,_⟩:=P.P.el u;have f:=N 1 1 ag;simp[-ax] at f;rw[h,l] at G;have N:=A j;have A:=V q (cO u);have s:=g.aw;simp[T,M,k,F,d,aB d,X,G,b,f,l,-ax];refine bh.call (V:=Pn h1.aw L (gP (Es I (y.g.bz.take j)) q.1.row) h') (by simpa [M] using Bc (V:=q.2) a ab o x.sl (λc A e=>by have:=o.of e;have:=(W.at H).lt U (l:=.R j) (c:=c) (by rw[YB.jr u];exact dI A);omega) ab) ?_;rintro _ N⟨s,L2,rfl,f,h⟩;simp[F,n];exact⟨cz y.ps-(j+1),ab,j+1,L2,Q,b,au T,au k,J,J,g.trans' s ai (λc A e=>av (o.of e)),by rw[t];exact f⟩
 .have:j=cz y.ps:=ab
  subst this;rw[tK (by simp[YB.g])] at o;simp[T,k,F,d,aB d,X,G,l,-ax];exact C _ _ L (au T) (au M) (au k) g o
def azf(h1:az)(S:Nat)(I:List Int)(ys:List YB)(m:Nat)(a:Env)(h':az):Prop:=
 ∃(j:Nat) (L:SV),m=cz ys-j/\j<=cz ys/\bU a 1 S/\bY a 3=L.v/\bC a 9 j/\ay aR h1 h'/\bm encI h1.aw h' L.v (By I ((ys.map YB.g).take j))
def Wz(l:cu h1)(X:ay aR h1 E)(W:FZ h1 n0 B ys)(s:bm encI h1.aw E L0.v I)(h:∀i b j,(ys.map YB.g)[i]?=Z b->cz (Es (By I ((ys.map YB.g).take i)) (b.bz.take j))<50000)(O:∀y∈ys,∀q∈y.ps,cz q.1.row<50000)(t:∀y∈ys,cz y.ps<100000)(M:eR h1 S (aC name p r B) D)(A:cz ys<100000)(G:bU e 1 S)(f:bY e 3=L0.v)(w:bC e 9 0)(C:∀x h' (L:SV),bY x 3=L.v->ay aR h1 h'->bm encI h1.aw h' L.v (By I (ys.map YB.g))->z (.exit 8) x h'):aK FF (.loop oe) e E z:=by
 have N:=W.A.len;refine aK.loop (azf h1 S I ys) ?_ (n:=cz ys) ⟨0,L0,Q,ab,G,f,w,X,by simpa [By] using s⟩;rintro m x h'⟨j,L,rfl,x,w,T,o,g,u⟩;have d:=g.get l M;simp[aC] at d;rw[N] at d;unfold oe;by_cases G:j<cz ys
 .have V:=ch ((j:Int)+1) ab ab;have⟨y,H⟩:=aQ ys j G;have v:(ys.map YB.g)[j]?=Z y.g:=by rw[gM,H];rfl
  have F:=cO H;simp[w,o,d,aB d,G,-ax];refine ad_ l g W H u (λk=>h j _ k v) (O y F) (t y F) M A (au w) (au T) (au o) J ?_;intro a t L2 n U a l h;simp[a,V];exact⟨cz ys-(j+1),ab,j+1,L2,Q,G,au n,au U,J,l,by rw[aam v];exact h⟩
 .have:j=cz ys:=ab
  subst this;rw[tK J] at u;simp[w,o,d,aB d,-ax];exact C _ _ L (au T) g u
end
def HI(p:Nat)(bs:List GB):List Int:=By (tT (ku p) bs) bs
def aeM(C:cu h){name:ByteArray}{p n0:Nat}{r:Int}{B:SV}(W:FZ h n0 B ys)(V:p<1000)(H:cz ys<=100)(u:∀b∈ys.map YB.g,cz b.bz<=300)(c:∀b∈ys.map YB.g,cz b.list<=300)(a:∀b∈ys.map YB.g,∀x∈b.list,cz x.args<=100)(U:∀b∈ys.map YB.g,∀q∈b.bz,cz q.row<50000)(e:∀j,cz (tT (ku p) ((ys.map YB.g).take j))<50000)(f:∀i b j,(ys.map YB.g)[i]?=Z b->cz (Es (By (tT (ku p) (ys.map YB.g)) ((ys.map YB.g).take i)) (b.bz.take j))<50000):aY FF 95 [ix ⟨aC name p r B⟩] h (λv h'=>ay aR h h'/\∃L:SV,v=L.v/\bm encI h.aw h' L.v (HI p (ys.map YB.g))):=by
 refine aY.of Hh ?_;unfold yz;simp[aC];refine aK.cut (λh1=>ay aR h h1/\di h1 h.aw (aC name p r B)) ⟨(ay.refl C).new _ _,0,by simp[aC]⟩ ?_;rintro h1⟨d,D,o⟩;have w:=W.cm C d;refine ah7 d.ok V o J (by simp[cM]) J ?_;intro r r L2 G r I B;simp;refine aan d.ok (.refl d.ok) I w.view B (aj H) u c a e o (au G) (au r) J ?_;intro r r L3 G E a r;simp;refine Wz d.ok a w r f (λy m q M=>U _ (KA m) q.1 (KA M)) (λy m=>by have:=u _ (KA m);simp[YB.g] at this;omega) o ab (au G) (au E) J ?_;intro G G w a G r;simp[a];exact⟨d.trans G,w,J,bm.low r d.aw⟩
end Go.Proofs.YtdhnndleffachaaGreatDoor
