/- Parts of the proof. -/
import Derived.Test.YtdhnndleffachaaGreatDoorP07
import Derived.Test.YtdhnndleffachaaGreatDoorP06
import Derived.Test.YtdhnndleffachaaGreatDoorP04
open Option.some renaming inj->gD
open Option renaming some->Z,none->K,map_eq_some_iff->ed
open Bool renaming false->cd,true->ck
open List renaming length->cz,drop_length->bE,filter_append->dQ,filter_map->wb,flatMap_cons->ez,length->bW,length_set->ly,map_append->aL,map_congr_left->cc,map_map->bL,map_set->cL,mem_append_left->aW,mem_append_right->af,mem_flatMap->ba,mem_singleton->bl,range->aU,replicate->ae
open Go.Value renaming slice->dB,bool->dC,pointer->eU,int->fc,string->gX,agg->ix,int->aA,slice->bf,string->cW
open Go.IntKind renaming i64->ft
open Or renaming inl->jZ,inr->kd
set_option linter.all false
set_option maxHeartbeats 1000000
namespace Go.Proofs.YtdhnndleffachaaGreatDoor
open Go.AI
variable{V B b i j D y:Nat}{L C P T:SV}{S:bH->Env->az->Prop}{e:Env}{h:az}{k kind nn t:Int}{on:Bool×Int}{ps d:List Int}{q:GP}{l:List GP}{g:List GI}
section
variable{s r:az}{x:Nat->Prop}{X A U n:Nat}{W N G:SV}{f p w:List (Int×Int)}{M:List (Int×Int)->Prop}
def OU(f p:List (Int×Int))(b:Int)(ps:List Int)(q:GP)(k:Nat)(c:List (Int×Int)):Prop:=∀(j:Nat)(a:Int)(v:Bool×Int),j<k->ps[j]?=Z a->q.row[j]?=Z v->(a,b)∈p->qQ (cS f v) (pG c q.dst)
def OU.succ{b:Int}{c a:List (Int×Int)}(w:OU f p b ps q j c)(d:qf c a){c:Int}{v:Bool×Int}(D:ps[j]?=Z c)(C:q.row[j]?=Z v)(h:(c,b)∈p->qQ (cS f v) (pG a q.dst)):OU f p b ps q (j+1) a:=λi E F H a c o=>by by_cases e:i=j;subst e;rw[D] at a;cases a;rw[C] at c;cases c;exact h o;exact(w i E F ab a c o).trans (d _)
def ass:List Nat:=[11,12,13,14]++(aU 57).map (· +65)
def azr(M:List (Int×Int)->Prop)(f p:List (Int×Int))(b:Int)(ps:List Int)(q:GP)(s r:az)(x:Nat->Prop)(X A U n:Nat)(d w:List (Int×Int))(e:Env)(m:Nat)(a:Env)(c:az):Prop:=
 ∃j:Nat,m=cz ps-j/\j<=cz ps/\aG ass e a/\bC a 11 j/\VT M (OU f p b ps q j) s r x X A U n d w c
def agd{g:List (Int×Int)}(dv:cu s)(a:BU s r x h X A U n g w)(u:cu r)(k:GN s W N G f p)(hl:cz f=n)(Ld:cz p<1000000)(fk:AG f)(hL:eM encI r L ps)(prL:∀c,dt L=Z c->x c)(t:cz ps<1000000)(sP:ad (pR s) 2 s P.v l)(hq:l[i]?=Z q)(o:0<=q.dst/\q.dst<n)(hqv:∀v∈q.row,rS n v)(hql:cz q.row=cz ps)(hM:∀m',M m'->OU f p b ps q (cz ps) m')(hK:eR r V [W.v,N.v,G.v] D)(prK:x V)(hXb:eR r B [P.v,C.v,fc ft kind,dC on.1,fc ft on.2,T.v] y)(prX:x B)(f3:bU e 3 V)(f5:bU e 5 X)(I:bC e 7 b)(f8:bU e 8 B)(f9:bY e 9=L.v)(f10:bC e 10 i)(o:bC e 11 0)(C':∀F E,aG ass e F->VT M (OU f p b ps q (cz ps)) s r x X A U n g w E->S (.exit 6) F E):aK FF (.loop mI) e h S:=by
 have jD:=hL.len;have fW:=ad.len sP;have fI:=(cY.mp hq).1;refine aK.loop (azr M f p b ps q s r x X A U n g w e) ?_ (n:=cz ps) ⟨0,Q,ab,aG.refl _ _,o,g,a,.refl λj a v h=>ab⟩;rintro m' F E⟨j,rfl,F,m,O,fz,o,t⟩;have H:=o.g.ok;have q3:=m.at f3;have q5:=m.at f5;have q7:=m.at I;have q8:=m.at f8;have I:=m.at f9;have v8:=m.at f10;unfold mI;by_cases bg:j<cz ps
 .have wj:=ch ((j:Int)+1) ab ab;have⟨a,ha⟩:=aQ ps j bg;have⟨v,hv⟩:=aQ q.row j;have hL1:=hL.go u o.gz λc F e=>F (prL c e);obtain⟨F,_,_,_,OG,hLb,_,_,F,_⟩:=hL1.el ha;have rL:=F 0 1 ag;have F:=o.gz.get u hK (λh=>h prK);have lh:=o.gz.get u hXb (λh=>h prX);obtain⟨u,u,u,jk,_,_,⟨u,rfl,u⟩,ob1,mi⟩:=ad.later dv sP hq;have jq:=ad.len u;obtain⟨b2,WH,c2,BN,_,_,rfl,ob2,Ab⟩:=ad.later dv u hv;simp[-ax] at rL I;rw[OG,jD] at I;have D':=F;have ij:=lh;simp at D' ij;rw[jk,fW] at ij;have oK:=H.cg F;have u:=H.cg lh;have u:=H.cg hLb;have stK:=H.st _ _ _ _ _ F;simp[q3,q7,I,O,bg,rL,D',oK,u,-ax,aB D',aI];refine bS.cut (λF=>ay aR E F) (bk H) ?_;intro F g2;have w2:=o.cm g2;refine bS.call (V:=λu hh=>u=dC (decide ((a,(b:Int))∈p))/\ay aR F hh) (aj (aaN g2.ok (k.cm dv w2.g) Ld a b)) ?_;rintro _ E⟨rfl,F⟩;have w3:=w2.cm F;by_cases vn:(a,(b:Int))∈p
  .have Q1:=(g2.trans F).get H D';have dK:=(g2.trans F).get H ij;have r10:=mi E w3.g 0 1 ag;have H:=mi E w3.g 1 1 ag;have r2:=Ab E w3.g 0 2 ag;simp[-ax] at r10 H r2;rw[BN,jq,hql] at H;have oK3:=F.ok.cg Q1;have oX3:=F.ok.cg dK;have stK3:=F.ok.st _ _ _ _ _ Q1;simp[vn,q3,q5,q7,q8,v8,O,fI,bg,H,r2,oK3,oX3,-ax,aB dK,aB Q1,aI];refine bS.cut (λH=>ay aR E H) (bk F.ok) ?_;intro H g4;have w4:=w3.cm g4;have E:=hqv v (cO hv);refine bS.call (V:=λu hh=>u=.tuple #[fc ft (cS f v).1,fc ft (cS f v).2]/\ay aR H hh) (aj (DO g4.ok (k.cm dv w4.g) hl E)) ?_;rintro _ h5⟨rfl,E⟩;have H:=w4.cm E;have jQ:=(g4.trans E).get F.ok dK;have J':=mi h5 H.g 0 1 ag;simp[-ax] at J';have⟨dn,MN⟩:∃u:Nat,q.dst=u:=⟨q.dst.toNat,ab⟩;rw[MN] at J';have KI:dn<n:=ab
   have⟨F,hy⟩:=aQ fz dn (by rw[o.fl];exact KI);have⟨G5,s5,VE,vy,nG5⟩:=H.hX;have⟨rd1,rd2⟩:=H.rd hy;have⟨t1,GC⟩:=H.h1;have⟨t2,Ep⟩:=H.h2;have oXX:=E.ok.cg VE;have od1:=E.ok.cg GC;have od2:=E.ok.cg Ep;have fv:=IN fk v;have g:=o.fk F (cO hy);have N5:=C1.set (M:=M) (x:=cS f v) hy (λm' hm=>by have:=hM m' hm j a v bg ha hv vn;rw[MN] at this;exact this);generalize r:cS f v=z at*;simp[q5,q8,v8,O,fI,KI,jQ,VE,J',rd1,rd2,oXX,od1,od2,-ax,aB jQ,aB VE,aI];refine bS.cut (λa=>ay aR h5 a) (bk E.ok) ?_;intro a g6;have w6:=H.cm g6;refine bS.call (V:=λu hh=>u=.tuple #[fc ft (gO F z).1,fc ft (gO F z).2]/\ay aR a hh) (aj (P7 a g6.ok g fv)) ?_;rintro _ a⟨rfl,H⟩;have v:=w6.cm H;have W':=v.py KI (y:=gO F z) (g.join fv);have⟨a,g⟩:=v.h1;have⟨a,hd4⟩:=v.h2;have dD:dn+1<=cz fz:=by rw[o.fl];omega
   have a:¬U=A:=λe=>o.ne.2.2 e.symm;have Io:=(g6.trans H).get E.ok VE;have Up:=E.ok.st _ _ _ _ _ VE;have v:=o.ne.1;have H:=o.ne.2.1;have E:s5<=h5.clock+1:=ab
   generalize gO F z=u at*;simp[g,hd4,dD,a,O,wj,KI,Io,Up,E,v,H];refine⟨cz ps-(j+1),ab,j+1,Q,ab,?_,J,_,W',t.trans N5 λc v d=>c.succ v ha hv λ_=>by rw[MN,r];exact d⟩
   exact aq
  .simp[vn,O,wj];refine⟨cz ps-(j+1),ab,j+1,Q,ab,?_,J,fz,w3,t.up,t.ls,t.c.succ (.refl _) ha hv λh=>absurd h vn⟩
   exact aq
 .have:j=cz ps:=ab
  subst this;simp at I;rw[jD] at I;simp[I,O];exact C' _ _ (by
   repeat (refine aG.set ?_)
   exact m) ⟨fz,o,t⟩
end
section
variable{r p:az}{s:Nat->Prop}{X w A n:Nat}{c N G:SV}{f U W:List (Int×Int)}{M:List (Int×Int)->Prop}
def UP(f U:List (Int×Int))(b:Int)(ps:List Int)(l:List GP)(k:Nat)(a:List (Int×Int)):Prop:=∀(i:Nat)(q:GP),i<k->l[i]?=Z q->OU f U b ps q (cz ps) a
def OT(f:List (Int×Int))(g:List GI)(k:Nat)(a:List (Int×Int)):Prop:=∀(i:Nat)(y:GI),i<k->g[i]?=Z y->0<=y.dst->qQ (qC f y) (pG a y.dst)
def OU.up{b:Int}{ps:List Int}{q:GP}{k:Nat}{d a:List (Int×Int)}(w:OU f U b ps q k d)(e:qf d a):OU f U b ps q k a:=λj d v a c C o=>(w j d v a c C o).trans (e _)
def UP.up{b:Int}{ps:List Int}{l:List GP}{k:Nat}{c a:List (Int×Int)}(w:UP f U b ps l k c)(d:qf c a):UP f U b ps l k a:=λi q a c=>(w i q a c).up d
def OT.up{g:List GI}{k:Nat}{b a:List (Int×Int)}(w:OT f g k b)(d:qf b a):OT f g k a:=λi y a b c=>(w i y a b c).trans (d _)
def OT.succ{b a:List (Int×Int)}(w:OT f g j b)(d:qf b a){y:GI}(c:g[j]?=Z y)(h:0<=y.dst->qQ (qC f y) (pG a y.dst)):OT f g (j+1) a:=λi z o a b=>by by_cases e:i=j;subst e;rw[c] at a;cases a;exact h b;exact(w i z ab a b).trans (d _)
def asu:List Nat:=[10,11,12,13,14]++(aU 64).map (· +58)
def ast(M:List (Int×Int)->Prop)(C:Nat->List (Int×Int)->Prop)(L:List Nat)(t k:Nat)(r p:az)(s:Nat->Prop)(X w A n:Nat)(c W:List (Int×Int))(e:Env)(m:Nat)(a:Env)(b:az):Prop:=
 ∃j:Nat,m=k-j/\j<=k/\aG L e a/\bC a t j/\VT M (C j) r p s X w A n c W b
def akl{g:List (Int×Int)}(dv:cu r)(a:BU r p s h X w A n g W)(z:cu p)(k:GN r c N G f U)(hl:cz f=n)(Ld:cz U<1000000)(fk:AG f)(hL:eM encI p L ps)(V':∀x,dt L=Z x->s x)(tj:cz ps<1000000)(sP:ad (pR r) 2 r P.v l)(O:cz l<1000000)(fu:∀q∈l,(0<=q.dst/\q.dst<n)/\cz q.row=cz ps/\∀v∈q.row,rS n v)(hM:∀m,M m->UP f U b ps l (cz l) m)(hK:eR p V [c.v,N.v,G.v] D)(J':s V)(E:eR p B [P.v,C.v,fc ft kind,dC on.1,fc ft on.2,T.v] y)(D':s B)(u:bU e 3 V)(t:bU e 5 X)(H:bC e 7 b)(F:bU e 8 B)(f9:bY e 9=L.v)(O:bC e 10 0)(C':∀I o,aG asu e I->VT M (UP f U b ps l (cz l)) r p s X w A n g W o->S (.exit 4) I o):aK FF (.loop mJ) e h S:=by
 have fW:=ad.len sP;refine aK.loop (ast M (UP f U b ps l) asu 10 (cz l) r p s X w A n g W e) ?_ (n:=cz l) ⟨0,Q,ab,aG.refl _ _,O,g,a,.refl λi q h=>ab⟩;rintro m I o⟨j,rfl,I,o,I,fz,O,g⟩;have q3:=o.at u;have q5:=o.at t;have q7:=o.at H;have t:=o.at F;have q9:=o.at f9;have F:=O.gz.get z E (λh=>h D');have a:=F;simp at a;rw[fW] at a;unfold mJ;by_cases H:j<cz l
 .have wj:=ch ((j:Int)+1) ab ab;have⟨q,F⟩:=aQ l j H;have⟨hqd,hql,W'⟩:=fu q (cO F);simp[t,I,a,H,-ax,aB a];refine agd dv O z k hl Ld fk hL V' tj sP F hqd W' hql (λm z=>hM m z j q H F) hK J' E D' (au q3) (au q5) (au q7) (au t) (au q9) (au I) J ?_;rintro z m E⟨u,z,u3⟩;have m:=E.at (t:=10) (ak I);simp[m,wj];refine⟨cz l-(j+1),ab,j+1,Q,H,?_,J,u,z,g.trans u3 λx m d i z H u=>?_⟩
  .refine aG.set (aG.set (aG.set (aG.trans ?_ (E.cU))))
   exact aq
  by_cases e:i=j;subst e;rw[F] at u;cases u;exact d;exact(x i z ab u).up m
 .have:j=cz l:=ab
  subst this;simp[t,I,a,-ax,aB a];exact C' _ _ (by
   repeat (refine aG.set ?_)
   exact o) ⟨fz,O,g⟩
def asr:List Nat:=[15,16,17,18]++(aU 54).map (· +122)
def akk{b:List (Int×Int)}(dv:cu r)(I:BU r p s h X w A n b W)(O:cu p)(k:GN r c N G f U)(hl:cz f=n)(H:ad (iR r) 8 r C.v g)(u:cz g<1000000)(u:∀x∈g,x.dst<n/\rS n x.a/\rS n x.b)(hM:∀F,M F->OT f g (cz g) F)(hK:eR p V [c.v,N.v,G.v] D)(prK:s V)(hXb:eR p B [P.v,C.v,fc ft kind,dC on.1,fc ft on.2,T.v] y)(o:s B)(f3:bU e 3 V)(v:bU e 5 X)(l:bU e 8 B)(a:bC e 15 0)(C':∀L E,aG asr e L->VT M (OT f g (cz g)) r p s X w A n b W E->S (.exit 8) L E):aK FF (.loop mH) e h S:=by
 have m:=ad.len H;refine aK.loop (ast M (OT f g) asr 15 (cz g) r p s X w A n b W e) ?_ (n:=cz g) ⟨0,Q,ab,aG.refl _ _,a,b,I,.refl λi q h=>ab⟩;rintro F L E⟨j,rfl,L,Kp,L,fz,a,I⟩;have t:=a.g.ok;have q3:=Kp.at f3;have q5:=Kp.at v;have q8:=Kp.at l;have lh:=a.gz.get O hXb (λh=>h o);have o:=lh;simp at o;rw[m] at o;unfold mH;by_cases m:j<cz g
 .have wj:=ch ((j:Int)+1) ab ab;have⟨x,v⟩:=aQ g j m;have⟨l,hxa,Te⟩:=u x (cO v);obtain⟨u,u,u,u,_,_,⟨A',rfl,l⟩,_,l⟩:=ad.later dv H v;rw[u] at o;have r1:=l E a.g 1 1 ag;simp[-ax,aM] at r1;have H:=a.gz.get O hK (λh=>h prK);by_cases Iq:0<=x.dst
  .have⟨dn,O⟩:∃u:Nat,x.dst=u:=⟨x.dst.toNat,ab⟩;have KI:dn<n:=ab
   rw[O] at r1;have aoT:(0:Int)<=(dn:Int):=ab
   have r8:=l E a.g 0 8 ag;simp[-ax,aM] at r8;have oK:=t.cg H;have oX:=t.cg lh;simp at H;simp[q3,q5,q8,L,o,m,r1,r8,aoT,H,oK,oX,-ax,aB o,aB H,aI];refine bS.cut (λH=>ay aR E H) (bk t) ?_;intro H g4;have w4:=a.cm g4;refine bS.call (V:=λu hh=>u=.tuple #[fc ft (qC f x).1,fc ft (qC f x).2]/\ay aR H hh) (by simpa [jj,aM,O] using ad1 (x:=x) (A:=A') g4.ok (k.cm dv w4.g) hl hxa Te) ?_;rintro _ h5⟨rfl,E⟩;have H:=w4.cm E;have jQ:=(g4.trans E).get t o;have F':=l h5 H.g 1 1 ag;simp[-ax,aM] at F';rw[O] at F';have⟨t,hy⟩:=aQ fz dn (by rw[a.fl];exact KI);obtain⟨l,s5,l,vy,nG5⟩:=H.hX;have⟨rd1,rd2⟩:=H.rd hy;have⟨t1,GC⟩:=H.h1;have⟨t2,Ep⟩:=H.h2;have oXX:=E.ok.cg l;have od1:=E.ok.cg GC;have od2:=E.ok.cg Ep;have fv:=ab8 f x;have b:=a.fk t (cO hy);have N5:=C1.set (M:=M) (x:=qC f x) hy (λF hm=>by have:=hM F hm j x m v Iq;rw[O] at this;exact this);generalize p:qC f x=z at*;simp[q5,q8,L,m,KI,jQ,l,F',rd1,rd2,oXX,od1,od2,-ax,aB jQ,aB l,aI];refine bS.cut (λx=>ay aR h5 x) (bk E.ok) ?_;intro x F;have w6:=H.cm F;refine bS.call (V:=λu hh=>u=.tuple #[fc ft (gO t z).1,fc ft (gO t z).2]/\ay aR x hh) (aj (P7 x F.ok b fv)) ?_;rintro _ x⟨rfl,H⟩;have x:=w6.cm H;have W':=x.py KI (y:=gO t z) (b.join fv);obtain⟨b,b⟩:=x.h1;have⟨t4,hd4⟩:=x.h2;have dD:dn+1<=cz fz:=by rw[a.fl];omega
   have x:¬A=w:=λe=>a.ne.2.2 e.symm;have Io:=(F.trans H).get E.ok l;have F:=E.ok.st _ _ _ _ _ l;have H:=a.ne.1;have E:=a.ne.2.1;have l:s5<=h5.clock+1:=ab
   generalize gO t z=u at*;simp[b,hd4,dD,x,L,wj,KI,Io,F,l,H,E];refine⟨cz g-(j+1),ab,j+1,Q,ab,?_,J,_,W',I.trans N5 λE u d=>E.succ u v λ_=>by rw[O,p];exact d⟩
   exact aq
  .simp[q8,L,o,m,r1,Iq,-ax,aB o,wj];refine⟨cz g-(j+1),ab,j+1,Q,ab,?_,J,fz,a,I.up,I.ls,I.c.succ (.refl _) v λh=>absurd h Iq⟩
   exact aq
 .have:j=cz g:=ab
  subst this;simp[q8,L,o,-ax,aB o];exact C' _ _ (by
   repeat (refine aG.set ?_)
   exact Kp) ⟨fz,a,I⟩
end
set_option maxRecDepth 100000
def ReO:List Nat:=(aU 19).map (· +192)
def aqy(V:eR h B [P.v,L.v,fc ft kind,dC on.1,fc ft on.2,T.v] y)(F:bU e 8 B)(a:bC e 19 k)(o:bC e 20 nn)(c:bC e 21 j)(H:∀O,aG ReO e O->bY O 210=dC (vF kind (k,nn) j)->S .normal O h):aK FF aiG e h S:=by
 have D:=V;simp at D;unfold aiG;by_cases E:kind=2
 .subst E;simp[F,a,o,c,-ax,aB D];refine H _ ?_ (by simp[vF])
  repeat (refine aG.set ?_)
  exact aG.refl _ _
 have C:(kind==2)=cd:=fP E;by_cases I:k=2
 .subst I;simp[F,a,o,c,-ax,aB D,E,C];refine H _ ?_ (by simp[vF])
  repeat (refine aG.set ?_)
  exact aG.refl _ _
 have O:(k==2)=cd:=fP I;by_cases b:k=1
 .subst b;simp[F,a,o,c,-ax,aB D,E,C,fV,d_];refine H _ ?_ (by simp[vF,C])
  repeat (refine aG.set ?_)
  exact aG.refl _ _
 .have w:(k==1)=cd:=fP b;simp[F,a,o,c,-ax,aB D,E,C,I,O,b,w];refine H _ ?_ (by simp[vF,C,O,w])
  repeat (refine aG.set ?_)
  exact aG.refl _ _
def zY(b kind:Int)(on:Int×Int)(d:List Int):List (Int×Int):=(d.zipIdx.filter λp=>vF kind on p.2).map λp=>(b,p.1)
def Zk{b kind:Int}{on:Int×Int}(h:d[j]?=Z t):zY b kind on (d.take (j+1))=zY b kind on (d.take j)++if vF kind on j then [(b,t)] else []:=by
 have c:=(cY.mp h).1;have a:cz (d.take j)=j:=by simp;omega
 unfold zY;rw[kh,h,List.zipIdx_append,dQ,aL,a];congr 1;simp only[Option.toList_some,List.zipIdx_cons,List.zipIdx_nil,List.filter_cons,List.filter_nil,IV];split<;>rfl
def Qq(b kind:Int)(on:Int×Int)(d:List Int):cz (zY b kind on d)<=cz d:=by unfold zY;rw[AZ];exact qN (IW _ _) J
def ad4{b kind:Int}{on:Int×Int}(h:d[j]?=Z t)(e:vF kind on j=ck):(b,t)∈zY b kind on d:=by unfold zY;exact kC.2 ⟨(t,j),EL.2 ⟨List.mem_zipIdx_iff_getElem?.2 h,e⟩,Q⟩
section
variable{p f:az}{u:Nat->Prop}{X z v n:Nat}{x r:List (Int×Int)}
def asq:List Nat:=[21]++(aU 40).map (· +184)
def azq(b kind:Int)(on:Int×Int)(d:List Int)(p f:az)(u:Nat->Prop)(X z v n:Nat)(x r:List (Int×Int))(e:Env)(m:Nat)(a:Env)(c:az):Prop:=
 ∃j:Nat,m=cz d-j/\j<=cz d/\aG asq e a/\bC a 21 j/\BU p f u c X z v n x (r++zY b kind on (d.take j))
def akj(G:cu p)(w:BU p f u h X z v n x r)(g:cu f)(o:cz r<900000)(H:ad nR 1 p T.v d)(I:cz d<100000)(O:eR f B [P.v,C.v,fc ft kind,dC on.1,fc ft on.2,T.v] y)(L:u B)(M:bU e 5 X)(o:bC e 7 b)(F:bU e 8 B)(W:bC e 19 k)(U:bC e 20 nn)(E:bC e 21 0)(C':∀c i,aG asq e c->BU p f u i X z v n x (r++zY b kind (k,nn) d)->S (.exit 10) c i):aK FF (.loop mG) e h S:=by
 have A:=ad.len H;refine aK.loop (azq b kind (k,nn) d p f u X z v n x r e) ?_ (n:=cz d) ⟨0,Q,ab,aG.refl _ _,E,by simpa [zY] using w⟩;rintro m c i⟨j,rfl,E,N,D,E⟩;have s:=E.g.ok;have w:=N.at M;have M:=N.at o;have q:=N.at F;have F:=N.at W;have m:=N.at U;have W:=E.gz.get g O (λh=>h L);have a:=W;simp at a;rw[A] at a;unfold mG;by_cases g:j<cz d
 .have U:=ch ((j:Int)+1) ab ab;have⟨t,c⟩:=aQ d j g;have O:=Zk (b:=b) (kind:=kind) (on:=(k,nn)) c;simp[q,D,a,g,-ax,aB a];refine aqy W (k:=k) (nn:=nn) (j:=j) (au q) (au F) (au m) (au D) ?_;intro L I o;have m:=I.at (t:=5) (ak w);have F:=I.at (t:=7) (ak M);have l:=I.at (t:=8) (ak q);have M:=I.at (t:=21) (ak D);cases L:vF kind (k,nn) j with
  |false=>
   rw[L] at o O;simp at O;simp[o,M,U];refine⟨cz d-(j+1),ab,j+1,Q,ab,?_,J,by rw[O];exact E⟩;refine aG.set (aG.set (aG.set (aG.trans ?_ (I.cU))))
   exact aq
  |true=>
   rw[L] at o O;obtain⟨A,A,L,L,_,_,rfl,_,A⟩:=ad.later G H c;rw[L] at a;have w:=A i E.g 0 1 ag;simp[-ax] at w;obtain⟨G,L,A,L,nG⟩:=E.hX;have c:=s.cg A;have G:=s.cg W;have H:=A;simp at H;simp[o,m,F,l,M,a,H,g,w,c,G,-ax,aB a,aB H,aI];have F:=bk s;have H:=E.cm F;have c:bp jC (aJ (tick i) (jC.enc ((b:Int),t)) 0) (dB (Z ⟨i.aw,0,K⟩) 1 1) [((b:Int),t)]:=dq (bX _ _ _);have V:=aO F.ok (jC.enc ((b:Int),t)) 0;have i:=H.cm V;have l:=(F.trans V).get s A;have A:=L.grow s (F.trans V) ai;have o:=Qq (b:Int) kind (k,nn) (d.take j);have W:cz (d.take j)<=cz d:=by simp;omega
   have w:=i.g.aw;obtain⟨s,o,s,g,G,H⟩:=fg (bytes:=16) V.ok (z:=[fc ft 0,fc ft 0]) rfl A c (by simp;omega) ag w;obtain⟨c,rfl⟩:=bm.E5 g;refine mn (aj s) ⟨J,?_⟩;have A:=G.get V.ok l (λe=>(nG _ e).1 Q);have W:=i.app l G g (λw s=>av (H w s));simp at A;simp at W;simp[m,M,A,U];refine⟨cz d-(j+1),ab,j+1,Q,ab,?_,J,by rw[O,bK rfl];exact W⟩;refine aG.set (aG.set (aG.set ?_))
   repeat (refine aG.set ?_)
   refine aG.trans ?_ (I.cU)
   exact aq
 .have:j=cz d:=ab
  subst this;rw[mO] at E;simp[q,D,a,-ax,aB a];exact C' _ _ (by
   repeat (refine aG.set ?_)
   exact N) E
end
abbrev akt:aD:=.ops [⟨Z 112,K,.pb 3 (t_ 3)⟩,⟨Z 113,K,.load K (t_ 112)⟩,⟨Z 114,K,.mv (t_ 4)⟩,⟨Z 115,K,.mv (t_ 6)⟩,⟨Z 116,K,.uu 1 [fc ft 0] [(0,1,.tmp 115)]⟩,⟨Z 117,K,.build [fc ft 0,dC cd,fc ft 0,dB K 0 0] [(0,1,.const (fc ft 2)),(3,1,.tmp 116)]⟩,⟨Z 118,K,.tP K 6 (t_ 113) (t_ 114)⟩,⟨Z 119,K,.pb 2 (t_ 118)⟩,⟨K,K,.store 4 (t_ 119) (t_ 117)⟩]
def ayS:List Nat:=[8,9,10,11]++(aU 65).map (· +55)
def Vk{f:az}(j:cu f){F H:Nat}{w:ByteArray}{E r:Int}{B:SV}{c:List YB}(W:FZ f F B c)(p:F<=f.aw)(I:di f H (aC w E r B))(w:¬cK B c H)(E:EB (c.map YB.g)){y x:YB}{to1:Int}(n:c[b]?=Z y)(o:c[i]?=Z x)(m:y.to.filter (· ≠to1)=[(i:Int)])(q:bU e 3 H)(l:bC e 4 b)(A:bC e 6 to1)(s:bC e 7 i)(r:bC e 8 0)(C:∀O a d,aG ayS e O->cV f a F B c B d->d.map YB.g=AU (c.map YB.g) b y.g to1->S .normal O a):aK FF (.loop jy) e f (RC 2 (LD FF akt S)):=by
 have u:=(cY.mp n).1;have z:=W.A.len;have F:H<f.aw:=by have⟨H,h⟩:=I;exact j.wf _ _ h
 refine ac5 j W p I w E o q l s r ?_;intro O a ps H T s;have⟨r,I⟩:=I;have g:=T.g;have f:=g.ok;have t:=H.at (t:=3) q;have v:=H.at (t:=4) l;have r:=H.at (t:=6) A;have O:=g.get j I w;simp[aC] at O;have⟨d,j⟩:∃d,d=c.set i {x with ps:=ps} :=⟨_,Q⟩;rw[<-j] at T;have I:cz d=cz c:=by rw[j,ly]
 have⟨l,D⟩:=aQ d b;obtain⟨V,G,L,I,W,I,w,q,w,A⟩:=T.w.A.el D;have w:=f.st _ _ _ _ _ I;have F:=q 2 4 ag;simp at F;rw[W,z] at O;have q:¬V=a.aw:=av (f.wf _ _ I)
 simp[t,v,r,O,u,-ax,aB O,q,I,F,w];have⟨F,O⟩:∃F,F=put (aJ a [aA ft to1] 0) V (b*6+2) G [fc ft 2,dC cd,fc ft 0,dB (Z ⟨a.aw,0,K⟩) 1 1] L:=⟨_,Q⟩;rw[<-O];have w:ay aR a (aJ a [aA ft to1] 0):=aO f _ _;have r:=w.get f I;have I:ay (· =V) (aJ a [aA ft to1] 0) F:=by rw[O];exact bc w.ok r
 have r:=A {l with kind:=2,on:=(cd,0),T:=⟨Z ⟨a.aw,0,K⟩,1,1⟩,to:=[to1]} 2 [fc ft 2,dC cd,fc ft 0,dB (Z ⟨a.aw,0,K⟩) 1 1] J rfl F ⟨_,by rw[O];exact aZ _ _ _ _ _ _⟩;have O:eM encI F ⟨Z ⟨a.aw,0,K⟩,1,1⟩ [to1]:=⟨Q,kd ⟨a.aw,0,0,[],Q,Q,I.get w.ok J (Ne.symm q),jZ Q⟩⟩;have q:=T.ato (k:=2) (o:=(cd,0)) (T':=⟨Z ⟨a.aw,0,K⟩,1,1⟩) (to':=[to1]) p D ((w.cm.trans I).cU (λI _ e=>jZ (by rw[e];exact cD W))) r O (λI W=>by rw[cD rfl] at W;cases W;omega);refine C _ _ _ ?_ q ?_
 .repeat (refine aG.set ?_)
  exact H.cU
 have H:∀ {k:Nat} {y:YB},c[k]?=Z y->(c.map YB.g)[k]?=Z y.g:=λh=>by rw[gM,h];rfl
 have W:(d.map YB.g)[b]?=Z l.g:=by rw[gM,D];rfl
 have l:Em (c.map YB.g) b [(i:Int)]=d.map YB.g:=by
  have d:(i:Int)∈y.to:=by
   have:(i:Int)∈y.to.filter (· ≠to1):=by rw[m];simp
   exact(EL.1 this).1
  rw[akw E (H n) (H o) d,j,cL];congr 1;show _=({x with ps:=ps} :YB).g;unfold YB.g;dsimp only;rw[s];rfl
 unfold AU;dsimp only;rw[cL,show y.g.to=y.to from Q,m,l,W];rfl
def ayN(d:az)(f:Nat)(B:SV)(a:List YB)(H R:Nat)(m:Nat)(e:Env)(c:az):Prop:=
 ∃(i:Nat) (b:List YB),m=cz a-i/\i<=cz a/\bU e 2 R/\bU e 3 H/\bC e 4 i/\cV d c f B a B b/\b.map YB.g=vJ (a.map YB.g) i
def aeF{j h:az}(a:cu j)(H:ay aR j h){name:ByteArray}{p r:Int}{I:SV}{w:List GB}(k:qP j I w)(E:EB w)(W:∀b∈w,Kr b):aY FF 49 [ix ⟨aC name p r I⟩] h (lD name p r (vJ w (cz w)) h):=by
 have L:=H.ok;have I:=E.n50;have I:¬h.aw=h.aw+1:=ab
 refine aY.of Hj ?_;unfold yB;simp[aC,I];refine bh.cut (λI=>ay aR h I/\I.aw=h.aw+2/\di I (h.aw+1) [gX ⟨⟨[]⟩⟩,fc ft 0,fc ft 0,dB K 0 0]) ⟨((ay.refl L).new _ _).new _ _,J,J⟩ ?_;rintro I⟨L,c,c,c⟩;refine bh.call (V:=lD name p r w I) (by simpa [aC] using ui a (H.trans L) (name:=name) (p:=p) (r:=r) k W ab) ?_;rintro _ H⟨k,B,a,rfl,W,x',N⟩;simp[aC];refine aK.cut (λo=>ay aR H o/\di o H.aw (aC name p r B)) ⟨(ay.refl k.ok).var _ _,⟨H.clock,by simp[aX,aC]⟩⟩ ?_;rintro o⟨O,A,A⟩;have G:I.aw<=H.aw:=k.aw;have G:=W.cm k.ok O;have s:EB (a.map YB.g):=by rw[N];exact E
 have vI:cz a=cz w:=by have:=congrArg bW N;simpa using this
 have w:=L.ok.wf _ _ c;have oR:¬cK B a (h.aw+1):=λ⟨l,e⟩=>av (W.new l _ e)
 have q:¬cK B a H.aw:=λ⟨l,e⟩=>av (W.lt k.ok e)
 have CJ:=O.get k.ok (k.get L.ok c (λh=>h));have c:=O.ok.wf _ _ A;refine aK.loop (ayN o I.aw B a H.aw (h.aw+1)) ?_ (n:=cz a) ⟨0,a,Q,ab,J,J,J,.refl G O.ok,Q⟩;rintro m G E⟨i,w,rfl,G,I,o,c,T,G⟩;have g:=T.g;have n:=g.ok;have x:cz w=cz a:=by have:=congrArg bW G;simp[Nb] at this;exact this
 have x:EB (w.map YB.g):=by rw[G];exact s.Ti i
 have zZ:=g.get O.ok A q;have nH1:¬cK B w H.aw:=λh=>(T.s _ h).elim q ab;have A:=W.A.len;have D:=zZ;simp[aC] at D;unfold vx;by_cases q:i<cz a
 .have s:=ch ((i:Int)+1) ab ab;have⟨y,m⟩:=aQ w i;have C:(w.map YB.g)[i]?=Z y.g:=by rw[gM,m];rfl
  have R:=T.w.at m;have qg:=R.T.len;obtain⟨d,d,d,d,d,F,U,U,U,z⟩:=T.w.A.el m;have z:=U 2 4 ag;simp[-ax] at z;rw[d,A] at D;have eJ:vJ (a.map YB.g) (i+1)=CQ (w.map YB.g) i:=by show CQ (vJ _ i) i=_;rw[G]
  simp[I,o,c,q,D,z,-ax,aB D,aH,cn,bj,aI,n.cg F];refine bh.cut (λz=>ay aR E z/\di z E.aw [fc ft y.kind,dC y.on.1,fc ft y.on.2,y.T.v]) ⟨(ay.refl n).var _ _,⟨E.clock,by simp[aX]⟩⟩ ?_;rintro z⟨U,F,F⟩;simp at F;have d:=T.cm U;have Tw:=U.ok;have same:¬(y.g.kind=3/\y.g.on.1=cd)->w.map YB.g=vJ (a.map YB.g) (i+1):=λX=>by rw[eJ];unfold CQ;rw[C];dsimp only;rw[bM X]
  by_cases f:y.kind=3
  .by_cases u:y.on.1=ck;simp[f,u,F,I,o,c,s,-ax,aB F];exact⟨cz a-(i+1),ab,i+1,w,Q,q,au I,au o,J,d,same (λh=>by have H:y.on.1=cd:=h.2;rw[u] at H;cases H)⟩
   .have M:y.on.1=cd:=aj u
    have⟨t,u,v,X⟩:=Li x C f;have H:y.to=[t,u]:=v;have S:bp encI z y.T.v y.to:=(d.w.at m).T.sl;obtain⟨z,z,z,V,_,_,P⟩:=S.read (i:=0) (x:=t) (by rw[H];rfl);obtain⟨z,z,z,z,_,_,aht⟩:=S.read (i:=1) (x:=u) (by rw[H];rfl);have S:=P 0 1 ag;have P:=aht 0 1 ag;simp[-ax] at S P V z;rw[V.1] at z;simp at z;have⟨⟨e1,e2⟩,e3⟩:=z;subst e1 e2;have z:y.T.l=2:=by rw[qg,H];rfl
    rw[V.1,z] at F;have z:=x.to y.g (cO C);rw[v,AZ] at z;have V:=z t J;have V:=z u J;obtain⟨t,rfl⟩:∃z:Nat,t=z:=⟨t.toNat,ab⟩;obtain⟨u,rfl⟩:∃z:Nat,u=z:=⟨u.toNat,ab⟩;have hHs:=U.get n zZ;have VN:(t:Int)≠u:=X;obtain⟨X,X⟩:=aQ w t;have⟨U,hyu⟩:=aQ w u;by_cases j:y.on.2=0
    simp[f,M,F,j,I,o,c,S,P,-ax,aB F];refine Vk Tw d.w (by have:=d.g.aw;have:=O.aw;omega) ⟨_,hHs⟩ nH1 x (to1:=(u:Int)) m X (by rw[H];simp[VN]) (au o) (au c) J J J ?_;intro e5 h5 V u U X;have z:=u.at (t:=2) (ak I);have k3:=u.at (t:=3) (ak o);have k4:=u.at (t:=4) (ak c);simp[k4,s];refine⟨cz a-(i+1),ab,i+1,V,Q,q,au z,au k3,J,d.trans U,?_⟩;rw[X,eJ];unfold CQ;rw[C];dsimp only;rw[bK ⟨f,M⟩,show y.g.on.2=0 from j,bK Q,v];rfl
    simp[f,M,F,j,I,o,c,S,P,-ax,aB F];refine Vk Tw d.w (by have:=d.g.aw;have:=O.aw;omega) ⟨_,hHs⟩ nH1 x (to1:=(t:Int)) m hyu (by rw[H];simp[Ne.symm VN]) (au o) (au c) J J J ?_;intro e5 h5 V u U X;have z:=u.at (t:=2) (ak I);have k3:=u.at (t:=3) (ak o);have k4:=u.at (t:=4) (ak c);simp[k4,s];refine⟨cz a-(i+1),ab,i+1,V,Q,q,au z,au k3,J,d.trans U,?_⟩;rw[X,eJ];unfold CQ;rw[C];dsimp only;rw[bK ⟨f,M⟩,bM (show ¬y.g.on.2=0 from j),v];rfl
  .have v:(y.kind !=3)=ck:=by simp[f]
   simp[v,F,I,o,c,s,-ax,aB F];exact⟨cz a-(i+1),ab,i+1,w,Q,q,au I,au o,J,d,same (λh=>f h.1)⟩
 .have:i=cz a:=ab
  subst this;have d:=g.get O.ok CJ oR;have f:=D;rw[A] at f;simp[I,o,c,f,A,d];have f:=bc (off:=0) (vs:=[gX name,fc ft p,fc ft r,dB B.a (cz a) B.c]) n d;have d:=O.aw;have d:=g.aw;have d:ay aR h E:=((L.trans k).trans O).trans' g ai (λc O ⟨l,e⟩=>av (W.new l c e));exact⟨d.trans' f ai (λc O e=>ab),B,w,by simp[aC,A],(T.w.go n f λc l e f=>av (T.w.new l c f)).cU ab,T.x x',by rw[G,N,vI]⟩
end Go.Proofs.YtdhnndleffachaaGreatDoor
namespace Go.AI.Dfs
section
variable{d:List (List Nat)}{n:Nat}
def IS(D:∀b t,t∈row d b->t<n){k:Nat}(C:∀b s,cz s.seen=n->b<n->¬s.seen[b]?=Z ck->dj s<=k->visitM d (k+1) b s=visitM d k b s):∀(l:List Nat)(s:DS),cz s.seen=n->(∀t∈l,t<n)->dj s<=k->foldM d (k+1) l s=foldM d k l s
 |[],_,_,_,_=>rfl
 |t::l,s,w,o,c=>by rw[mg,mg];by_cases a:s.seen[t]?=Z ck;rw[bK a,bK a];exact IS D C l s w (λt h=>o t (xV _ h)) c;rw[bM a,bM a,C t s w (o t (iY ..)) a c];obtain⟨v,v,_⟩:=Ou D k t s w (o t (iY ..)) a c;refine IS D C l _ v.len (λt h=>o t (xV _ h)) (qN ?_ c);exact countP_le (w.trans v.len.symm) λx E=>(v.seen x).2 (jZ E)
def Oq(a:∀b t,t∈row d b->t<n):∀(k b:Nat)(s:DS),cz s.seen=n->b<n->¬s.seen[b]?=Z ck->dj s<=k->visitM d (k+1) b s=visitM d k b s
 |0,b,s,o,C,c,w=>av (pH (s:=s) ab c)
 |k+1,b,s,o,C,c,w=>by rw[iE,iE d k];have D:=pH (s:=s) ab c;rw[IS a (Oq a k) _ _ (aj o) (λt h=>a b t (List.mem_reverse.1 h)) ab]
def Ot(a:∀b t,t∈row d b->t<n){k b:Nat}{s:DS}(w:cz s.seen=n)(c:b<n)(o:¬s.seen[b]?=Z ck)(C:dj s<=k):∀m,visitM d (k+m) b s=visitM d k b s
 |0=>rfl
 |m+1=>by rw[<-IU,Oq a (k+m) b s w c o ab,Ot a w c o C m]
end
structure Sm(A:List Nat)(s s':DS):Prop where
 seen:∀i k:Nat,A[i]?=Z k->s'.seen[i]?=s.seen[k]?
 left:s.left=s'.left.map λi=>(A[i]?).getD 0
 l1:cz s'.seen=cz A
 l2:∀k∈A,k<cz s.seen
section
variable{f d:List (List Nat)}{A:List Nat}
def MC{k:Nat}(w:∀i b s a,A[i]?=Z b->Sm A s a->Sm A (visitM f k b s) (visitM d k i a)):∀(c:List Nat)(s a:DS),(∀t∈c,t<cz A)->Sm A s a->Sm A (foldM f k (c.map λi=>(A[i]?).getD 0) s) (foldM d k c a)
 |[],_,_,_,h=>h
 |t::c,s,a,C,h=>by
  rw[xg,mg,mg];have E:=C t (iY ..);have⟨b,D⟩:=aQ A t E;have e:(A[t]?).getD 0=b:=by rw[D];rfl
  rw[e,<-h.seen t b D];by_cases o:a.seen[t]?=Z ck;rw[bK o,bK o];exact MC w c s a (λt h=>C t (xV _ h)) h;rw[bM o,bM o];exact MC w c _ _ (λt h=>C t (xV _ h)) (w t b s a D h)
def Rv(g:A.Nodup)(F:∀i b,A[i]?=Z b->row f b=(row d i).map (λi=>(A[i]?).getD 0)/\∀t∈row d i,t<cz A):∀(k i b:Nat)(s a:DS),A[i]?=Z b->Sm A s a->Sm A (visitM f k b s) (visitM d k i a)
 |0,_,_,_,_,_,h=>h
 |k+1,i,b,s,a,o,h=>by
  have⟨m,H⟩:=F i b o;have E:=(cY.mp o).1;have l:Sm A ⟨s.seen.set b ck,s.left⟩ ⟨a.seen.set i ck,a.left⟩:=by
   refine⟨λj c C=>?_,h.left,aj h.l1,λk I=>aj (h.l2 k I)⟩;show(a.seen.set i ck)[j]?=(s.seen.set b ck)[c]?;rw[fO,fO];by_cases e:i=j
   subst e;rw[o] at C;cases C;rw[bK Q,bK Q,bK (by rw[h.l1];exact E),bK (h.l2 b (cO o))];have D:b≠c:=λD=>e (by subst D;exact(List.getElem?_inj E g).1 (o.trans C.symm));rw[bM e,bM D];exact h.seen j c C
  have w:=MC (Rv g F k) (row d i).reverse _ _ (λt O=>H t (List.mem_reverse.1 O)) l;rw[iE,iE,m,<-List.map_reverse];refine⟨w.seen,?_,w.l1,w.l2⟩;show _++[b]=List.map _ (_++[i]);rw[aL,w.left];simp[o]
end
end Go.AI.Dfs
namespace Go.Proofs.YtdhnndleffachaaGreatDoor
open Go.AI
variable{A B F0 G0 L T:SV}{v U X j j0 n E W o sX:Nat}{C:bH->Env->az->Prop}{bs g t:List GB}{bt kind:Int}{e:Env}{es l:List Int}{f:GF}{i:List (Int×Int)}{V:List GF}{h h' M:az}{name:ByteArray}{on:Bool×Int}{ps:List (GP×SV)}{q:Nat×List GB}{row:List (Bool×Int)}{u:GU}{y:YB}{z:GB}
def Xi{k:Nat}{x:GB}(h:bs[k]?=Z x):Dfs.row (ir bs) k=x.to.map Int.toNat:=by unfold Dfs.row ir;rw[gM,h];rfl
def ahT{A:List Nat}(C:nH g A)(E:EB g):vm A (eH (bu g A))=eH g:=by
 have O:cz (bu g A)=cz A:=by simp[bu]
 have V:=C.eb E;have d:=C.o.len;have I:∀i b,A[i]?=Z b->Dfs.row (ir g) b=(Dfs.row (ir (bu g A)) i).map (λi=>(A[i]?).getD 0)/\∀t∈Dfs.row (ir (bu g A)) i,t<cz A:=λi b F=>by have⟨x,H⟩:=aQ g b (C.o.lt b (cO F));rw[Xi H,Xi (yT F H)];simp only[eW];refine⟨?_,λt o=>?_⟩;rw[bL,bL];refine cc λu D=>?_;obtain⟨W,v,rfl,a,c,_⟩:=C.KE E (cO F) H D;simp[c,a];obtain⟨w,S,rfl⟩:=kC.1 o;obtain⟨u,D,rfl⟩:=kC.1 S;obtain⟨W,v,rfl,a,c,_⟩:=C.KE E (cO F) H D;have:=(cY.mp a).1;simp[c,this]
 have S:=Dfs.Rv C.o.nd I (cz g) 0 0 ⟨ae (cz g) cd,[]⟩ ⟨ae (cz A) cd,[]⟩ C.z ⟨λi k D=>by have a:=(cY.mp D).1;have c:=C.o.lt k (cO D);simp[a,c],Q,J,λk D=>aj (C.o.lt k D)⟩;have o:∀b t,t∈Dfs.row (ir (bu g A)) b->t<cz A:=λb t o=>by have:=yY V.ends b t o;rw[O] at this;exact this
 have a:=Dfs.Ot (k:=cz A) (b:=0) (s:=⟨ae (cz A) cd,[]⟩) o J (by have:=(cY.mp C.z).1;exact this) (by simp[Qp]) (by unfold Dfs.dj;exact qN List.countP_le_length J) (cz g-cz A);rw[Nat.add_sub_cancel' d] at a;have L:=S.left;rw[a] at L;unfold vm eH;rw[List.map_reverse,O];exact congrArg List.reverse L.symm
def adb{bs t n:List GB}(E:EB bs)(s:DQ (bu bs (eH bs)) t)(a:∀x,xY t x)(S:Steps (bu bs (eH bs)) n)(no:∀x,xY n x):bu t (eH t)=bu n (eH n):=by obtain⟨A,c,C,rfl⟩:=s.done (E.HV.eb E) (alq E) a S no;rw[QI C c (C.eb c).HV,ahT C c]
def HH(p:Int->Bool):∀(es l:List Int),(∀x∈es,p x=cd->x∈l)->dz l es=dz l (es.filter p)
 |[],_,_=>rfl
 |e::es,l,h=>by
  have c:∀x∈es,p x=cd->x∈ee l e:=λx o a=>(QS l e).subset (h x (xV _ o) a);cases a:p e
  .rw[List.filter_cons_of_neg (au a)];have:ee l e=l:=by unfold ee;rw[bK (h e iY a)]
   show dz (ee l e) es=_;rw[this] at c⊢;exact HH p es l c
  rw[List.filter_cons_of_pos a];exact HH p es _ c
def ah3{l es V:List Int}(h:es.filter (λe=> !decide (e∈l))=V.filter (λe=> !decide (e∈l))):dz l es=dz l V:=by rw[HH (λe=> !decide (e∈l)) es l (λx _ h=>aj h),HH (λe=> !decide (e∈l)) V l (λx _ h=>aj h),h]
def Im(x:GI):Prop:=tJ (iT x)=kq x.a++(kq x.b++tJ x.args)
def FX{v:Bool×Int}(h:v.1=cd):kq v=[]:=by unfold kq;rw[h];rfl
def zK.inF{a:Int}{x:GI}(h:zK a x):Im x:=by
 have a:=h.form;have E:=h.op;unfold cR dX at a;unfold Im iT;by_cases w:x.op=21
 rw[bK w];simp[w] at a;rw[FX a.1.1,FX a.2.1.1,a.2.2.2];rfl;rw[bM w];by_cases o:x.op=20;rw[bK o];simp[o] at a;rw[FX a.1.1,FX a.2.1];rfl;rw[bM o];by_cases c:(2<=x.op/\x.op<=15)\/x.op=19
 .rw[bK c];have:¬(x.op=1\/x.op=16\/x.op=17\/x.op=18):=ab
  rw[bM this] at a;have D:x.args=[]:=by
   rcases c with c|c;rw[bK c] at a;simp[o] at a;exact a.2
   .have:¬(2<=x.op/\x.op<=15):=ab
    simp[c] at a;exact a.2.2
  rw[D];simp[tJ]
 .rw[bM c,bK ab];have e:¬(2<=x.op/\x.op<=15):=ab
  have F:¬x.op=19:=ab
  have:x.b.1=cd/\x.args=[]:=by
   by_cases C:x.op=1\/x.op=16\/x.op=17\/x.op=18;rw[bK C] at a;simp[o] at a;exact⟨a.1.1,a.2.2⟩
   .have:x.op=22:=ab
    simp[this] at a;exact⟨a.2.1.1,a.2.2.2⟩
  rw[FX this.1,this.2];simp[tJ]
def Ll:∀(a:List (Bool×Int))(l:List Int),gP l a=dz l (tJ a)
 |[],_=>rfl
 |v::a,l=>by
  have b:gP l (v::a)=gP (if v.1 then ee l v.2 else l) a:=Q;have c:tJ (v::a)=kq v++tJ a:=by simp[tJ]
  rw[b,c,fp,Ll a];unfold kq;split<;>rfl
def alC{x:GI}(h:Im x)(l:List Int):Jl l x=dz l (CD x):=by unfold Jl CD;rw[<-MD,<-MD,MD (kq x.a),<-h,fp,Ll];split<;>rfl
def aca:∀ {a:List GI},(∀x∈a,Im x)->∀l,zv l a=dz l (a.flatMap CD)
 |[],_,_=>rfl
 |x::a,h,l=>by show zv (Jl l x) a=_;rw[ez,fp,alC (h x iY),aca λy a=>h y (xV _ a)]
def acd:∀(ps:List GP)(l:List Int),Jk l ps=dz l (ps.map (·.dst))
 |[],_=>rfl
 |p::ps,l=>acd ps (ee l p.dst)
def VQ(bs:List GB):Prop:=∀b∈bs,∀x∈b.list,Im x
def alB{b:GB}(h:∀x∈b.list,Im x)(l:List Int):QB l b=dz l (Sy b):=by unfold QB Sy;rw[acd,aca h,fp,fp,Ll];simp[tJ]
def CS:∀ {bs:List GB},VQ bs->∀l,tT l bs=dz l (bs.flatMap Sy)
 |[],_,_=>rfl
 |b::bs,h,l=>by show tT (QB l b) bs=_;rw[ez,fp,alB (h b iY),CS λy a=>h y (xV _ a)]
def W7(b:GB):List Int:=b.bz.flatMap λq=>tJ q.row
def Ts:∀(ps:List GP)(l:List Int),Es l ps=dz l (ps.flatMap λq=>tJ q.row)
 |[],_=>rfl
 |p::ps,l=>by show Es (gP l p.row) ps=_;rw[ez,fp,Ts ps,Ll]
def HJ:∀(bs:List GB)(l:List Int),By l bs=dz l (bs.flatMap W7)
 |[],_=>rfl
 |b::bs,l=>by show By (Es l b.bz) bs=_;rw[ez,fp,HJ bs,Ts];rfl
def IQ{b:Type}{p:Int->Bool}{f g:b->List Int} :∀ {a:List b},(∀x∈a,(f x).filter p=(g x).filter p)->(a.flatMap f).filter p=(a.flatMap g).filter p
 |[],_=>rfl
 |x::a,h=>by rw[ez,ez,dQ,dQ,h x iY,IQ λy a=>h y (xV _ a)]
def Ql{p:Int->Bool}(h:∀x∈es,p x=cd):es.filter p=[]:=List.filter_eq_nil_iff.2 λx a=>by simp[h x a]
def acb{p:Nat}(h:VQ bs):HI p bs=qD p bs:=by
 unfold HI qD;rw[HJ,CS h];refine ah3 (IQ λb o=>?_);have c:∀x∈Sy b,decide (x∈dz (ku p) (bs.flatMap Sy))=ck:=λx a=>aj (tU _ _ (ba.2 ⟨b,o,a⟩))
 unfold W7 Gy;rw[dQ,Ql (es:=b.list.flatMap CD++kq b.on) (λx a=>by simp[c x (af _ a)]),Bx];refine IQ λq w=>?_;unfold vG;rw[dQ,Ql (es:=[q.dst]) (λx a=>by cases bl.1 a;simp[c q.dst (aW _ (kC.2 ⟨q,w,Q⟩))])];rfl
def zK.inV{c:Int}{x:GI}(h:zK c x):tJ (iU x)=tJ (iT x):=by
 rw[h.inF];have c:=h.form;unfold cR at c;have e:∀a b:List (Bool×Int),tJ (a++b)=tJ a++tJ b:=λa b=>by simp[tJ]
 have o:∀v:Bool×Int,tJ [v]=kq v:=λv=>by simp[tJ]
 unfold iU;rw[e,e];congr 1;split;exact o _;rename_i k;simp[k] at c;rw[FX (au c)];rfl;congr 1;split;exact o _;rename_i k;simp[k] at c;rw[FX (au c)];rfl
def Uv(h:az)(v:Value)(h':az):Prop:=ay aR h h'/\v=dC ck
def SmI(A a:SV)(n:Nat)(h:az)(m:Nat)(e:Env)(h':az):Prop:=
 ∃j:Nat,m=n-j/\j<=n/\bY e 0=A.v/\bY e 1=a.v/\bC e 5 j/\ay aR h h'
section
variable{h:az}{A d:SV}
def Ob(F:cu h){a:List Int}(s:ad nR 1 h A.v a)(H:ad nR 1 h d.v a)(D:cz a<10000000):aY FF 154 [A.v,d.v] h (Uv h):=by
 have D:=ad.len s;have E:=ad.len H;refine aY.of FK ?_;unfold wW;simp[D,E];refine aK.loop (SmI A d (cz a) h) ?_ (n:=cz a) ⟨0,Q,ab,au D,au E,J,.refl F⟩;rintro m e h'⟨j,rfl,b,b,w,O,g⟩;simp at b w;rw[D] at b;rw[E] at w;unfold uf;by_cases C:j<cz a
 have W:=ch ((j:Int)+1) ab ab;have⟨x,r⟩:=aQ a j C;obtain⟨I,I,c,V,_,_,rfl,o,I⟩:=ad.later F s r;obtain⟨s,s,s,c,_,_,rfl,s,f⟩:=ad.later F H r;have r:=I h' g 0 1 ag;have I:=f h' g 0 1 ag;simp[-ax] at r I;rw[V] at b;rw[c] at w;have F:=g.cg o;have H:=g.cg s;simp[b,w,O,C,r,I,F,H,W,aI,-ax];exact⟨cz a-(j+1),ab,j+1,Q,C,by simp[b,V,D],by simp[w,c,E],J,by first|exact g.tick|exact g⟩
 simp[b,O,C,show j=cz a by omega];exact⟨g,Q⟩
def Oj(F:cu h){a:List (Bool×Int)}(s:ad vR 2 h A.v a)(H:ad vR 2 h d.v a)(D:cz a<10000000):aY FF 212 [A.v,d.v] h (Uv h):=by
 have D:=ad.len s;have E:=ad.len H;refine aY.of FM ?_;unfold wZ;simp[D,E];refine aK.loop (SmI A d (cz a) h) ?_ (n:=cz a) ⟨0,Q,ab,au D,au E,J,.refl F⟩;rintro m e h'⟨j,rfl,b,b,w,O,g⟩;simp at b w;rw[D] at b;rw[E] at w;unfold ug;by_cases C:j<cz a
 have W:=ch ((j:Int)+1) ab ab;have⟨x,r⟩:=aQ a j C;obtain⟨I,I,c,V,_,_,rfl,o,I⟩:=ad.later F s r;obtain⟨s,s,s,c,_,_,rfl,s,f⟩:=ad.later F H r;have r:=I h' g 0 2 ag;have I:=f h' g 0 2 ag;simp[-ax] at r I;rw[V] at b;rw[c] at w;have F:=g.cg o;have H:=g.cg s;simp[b,w,O,C,r,I,F,H,W,aI,-ax];exact⟨cz a-(j+1),ab,j+1,Q,C,by simp[b,V,D],by simp[w,c,E],J,by first|exact g.tick|exact g⟩
 simp[b,O,C,show j=cz a by omega];exact⟨g,Q⟩
def ae_(c:cu h){x:GI}(s:ad vR 2 h A.v x.args)(w:ad vR 2 h d.v x.args)(C:cz x.args<10000000):aY FF 213 [ix ⟨jj x A⟩,ix ⟨jj x d⟩] h (Uv h):=by
 refine aY.of Hl ?_;unfold yD;have D:¬h.aw=h.aw+1:=ab
 simp[jj,aM,D];refine bh.cut (λr=>ay aR h r) (((ay.refl c).new _ _).new _ _) ?_;intro r a;refine bh.call (V:=Uv r) (aj (Oj a.ok (s.mono c a λ_ _ r=>r) (w.mono c a λ_ _ r=>r) C)) ?_;rintro _ E⟨o,rfl⟩;simp;exact⟨a.trans o,Q⟩
end
def ZQ(a:az)(X k n m:Nat)(e:Env)(h':az):Prop:=
 ∃j:Nat,m=n-j/\j<=n/\bU e 2 X/\bU e 3 (X+1)/\bC e k j/\ay aR a h'
section
variable{M d:az}{P L T G s k:SV}{b:GB}{X sX N:Nat}
def ae8(H:cu M)(I:ay aR M d)(c:OQ M P L T b)(i:OQ M G s k b)(D:eR d X (du P L T b) sX)(f:eR d (X+1) (du G s k b) N)(r:bU e 2 X)(w:bU e 3 (X+1))(h:bC e 5 0)(p:∀O h',bU O 2 X->bU O 3 (X+1)->ay aR d h'->C (.exit 0) O h'):aK FF (.loop kU) e d C:=by
 have t:=ad.len c.sP;have v:=ad.len i.sP;have m:=c.lp;refine aK.loop (ZQ d X 5 (cz b.bz)) ?_ (n:=cz b.bz) ⟨0,Q,ab,r,w,h,.refl I.ok⟩;rintro m O h'⟨j,rfl,O,O,h,W,g⟩;have r:=g.ok;have w:=I.trans g;have a:=g.get I.ok D;have D:=g.get I.ok f;simp[du] at a D;rw[t] at a;rw[v] at D;unfold kU;by_cases f:j<cz b.bz
 have t:=ch ((j:Int)+1) ab ab;have⟨v,I⟩:=aQ b.bz j f;obtain⟨y,y,y,y,_,_,⟨A,rfl,u⟩,o,m⟩:=ad.later H c.sP I;obtain⟨q,q,q,q,_,_,⟨z,rfl,z⟩,x,n⟩:=ad.later H i.sP I;have l:=m h' w 0 1 ag;have i:=m h' w 1 1 ag;have E:=n h' w 0 1 ag;have F:=n h' w 1 1 ag;simp[-ax] at l i E F;rw[y] at a;rw[q] at D;have m:=w.cg o;have n:=w.cg x;have q:=r.cg a;have x:=r.cg D;simp[O,h,W,a,D,aB a,aB D,f,l,i,E,F,m,n,q,x,aI,-ax];have D:=bk r;generalize tick h'=h2 at*;have i:=w.trans D;refine bS.call (V:=Uv h2) (aj (Oj D.ok (u.mono H i λ_ _ r=>r) (z.mono H i λ_ _ r=>r) (av (c.lr v (cO I))))) ?_;rintro _ I⟨I,rfl⟩;simp[W,t];exact⟨cz b.bz-(j+1),ab,j+1,Q,f,au O,au h,J,(g.trans D).trans I⟩
 simp[O,W,a,aB a,show j=cz b.bz by omega,-ax];exact p _ _ (au O) (au h) g
def ae7(E:cu M)(F:ay aR M d)(c:OQ M P L T b)(r:OQ M G s k b)(w:eR d X (du P L T b) sX)(f:eR d (X+1) (du G s k b) N)(O:bU e 2 X)(D:bU e 3 (X+1))(I:bC e 6 0)(i:∀H h',bU H 2 X->bU H 3 (X+1)->ay aR d h'->C (.exit 2) H h'):aK FF (.loop kT) e d C:=by
 have m:=ad.len c.sL;have x:=ad.len r.sL;have a:=c.ll;refine aK.loop (ZQ d X 6 (cz b.list)) ?_ (n:=cz b.list) ⟨0,Q,ab,O,D,I,.refl F.ok⟩;rintro I H h'⟨j,rfl,I,I,O,H,g⟩;have W:=g.ok;have D:=F.trans g;have a:=g.get F.ok w;have w:=g.get F.ok f;simp[du] at a w;rw[m] at a;rw[x] at w;unfold kT;by_cases f:j<cz b.list
 have m:=ch ((j:Int)+1) ab ab;have⟨x,F⟩:=aQ b.list j f;obtain⟨p,p,p,p,_,_,⟨A,rfl,n⟩,o,h⟩:=ad.later E c.sL F;obtain⟨l,l,l,l,_,_,⟨u,rfl,u⟩,t,q⟩:=ad.later E r.sL F;have r:=h h' D 0 8 ag;have h:=q h' D 0 8 ag;simp[aM,-ax] at r h;rw[p] at a;rw[l] at w;have q:=D.cg o;have p:=D.cg t;have l:=W.cg a;have t:=W.cg w;simp[I,O,H,a,w,aB a,aB w,f,r,h,q,p,l,t,aI,-ax];have w:=bk W;generalize tick h'=h2 at*;have h:=D.trans w;refine bS.call (V:=Uv h2) (by simpa [jj,aM] using ae_ w.ok (x:=x) (n.mono E h λ_ _ r=>r) (u.mono E h λ_ _ r=>r) (av (c.la x (cO F)))) ?_;rintro _ F⟨F,rfl⟩;simp[H,m];exact⟨cz b.list-(j+1),ab,j+1,Q,f,au I,au O,J,(g.trans w).trans F⟩
 simp[I,H,a,aB a,show j=cz b.list by omega,-ax];exact i _ _ (au I) (au O) g
def Xt(w:cu M)(a:OQ M P L T b)(o:OQ M G s k b):aY FF 155 [ix ⟨du P L T b⟩,ix ⟨du G s k b⟩] M (Uv M):=by
 refine aY.of Ei ?_;unfold vh;have F:¬M.aw=M.aw+1:=ab
 have c:=ad.len a.sP;have r:=ad.len o.sP;have H:=ad.len a.sL;have I:=ad.len o.sL;simp[du,F,c,r,H,I];refine aK.cut (λd=>ay aR M d/\(di d M.aw (du P L T b))/\di d (M.aw+1) (du G s k b)) ⟨((ay.refl w).new _ _).new _ _,⟨0,by simp[du,F,c,H]⟩,0,by simp[du,r,I]⟩ ?_;rintro d⟨c,⟨I,H⟩,I,I⟩;refine ae8 w c a o H I J J J ?_;intro F F F E C;simp;refine ae7 w (c.trans C) a o (C.get c.ok H λh=>h) (C.get c.ok I λh=>h) (au F) (au E) J ?_;intro r e F E D;have r:=C.trans D;have D:=c.trans r;have O:=r.get c.ok H;have W:=r.get c.ok I;simp[du] at O W;simp[F,E,O,W];refine bh.call (V:=Uv e) (aj (Ob D.ok (a.sT.mono w D λ_ _ r=>r) (o.sT.mono w D λ_ _ r=>r) (av a.lt))) ?_;rintro _ a⟨a,rfl⟩;simp;exact⟨D.trans a,Q⟩
end
def Kr.src{P L T:SV}{b:GB}(z:Kr b)(o:ad (pR h) 2 h P.v b.bz)(c:ad (iR h) 8 h L.v b.list)(a:ad nR 1 h T.v b.to):OQ h P L T b:=⟨o,c,a,z.lp,z.ll,z.lr,z.la,z.lt⟩
def acf(b:ByteArray):(b==b)=ck:=by have⟨d⟩:=b;show(d==d)=ck;simp
section
variable{h:az}{B d:SV}
def aa0(a:cu h){p r:Int}(F:qP h B bs)(H:qP h d bs)(m:∀b∈bs,Kr b)(c:cz bs<1000000):aY FF 99 [ix ⟨aC name p r B⟩,ix ⟨aC name p r d⟩] h (Uv h):=by
 have c:=ad.len F;have f:=ad.len H;refine aY.of FI ?_;unfold wV;have I:¬h.aw=h.aw+1:=ab
 simp[aC,I,c,f,acf];refine aK.cut (λD=>ay aR h D/\(di D h.aw (aC name p r B))/\di D (h.aw+1) (aC name p r d)) ?_ ?_;exact⟨((ay.refl a).new _ _).new _ _,⟨0,by simp[aC,I,c]⟩,0,by simp[aC,f]⟩;rintro D⟨I,⟨l,l⟩,n,n⟩;refine aK.loop (ZQ D h.aw 5 (cz bs)) ?_ (n:=cz bs) ⟨0,Q,ab,J,J,J,.refl I.ok⟩;rintro D e h'⟨j,rfl,D,i,k,W,g⟩;have w:=g.ok;have D:=I.trans g;have C:=g.get I.ok l;have E:=g.get I.ok n;simp[aC] at C E;rw[c] at C;rw[f] at E;unfold ue;by_cases I:j<cz bs
 have l:=ch ((j:Int)+1) ab ab;have⟨b,c⟩:=aQ bs j I;have z:=m b (cO c);obtain⟨m,m,m,y,_,_,⟨P,L,T,rfl,u,m,n⟩,o,q⟩:=ad.later a F c;obtain⟨F,F,F,f,_,_,⟨F,F,F,rfl,O,s,t⟩,v,x⟩:=ad.later a H c;have b:=q h' D 0 6 ag;have F:=x h' D 0 6 ag;simp[-ax] at b F;rw[y] at C;rw[f] at E;have q:=D.cg o;have c:=D.cg v;have f:=w.cg C;have v:=w.cg E;simp[i,k,W,C,E,aB C,aB E,I,b,F,q,c,f,v,aI,-ax];have b:=bk w;generalize tick h'=h2 at*;have w:=D.trans b;refine bS.call (V:=Uv h2) (by simpa [du] using Xt b.ok (z.src (u.mono a w λ_ _ r=>r.mono a w) (m.mono a w λ_ _ r=>r.mono a w) (n.mono a w λ_ _ r=>r)) (z.src (O.mono a w λ_ _ r=>r.mono a w) (s.mono a w λ_ _ r=>r.mono a w) (t.mono a w λ_ _ r=>r))) ?_;rintro _ w⟨w,rfl⟩;simp[W,l];exact⟨cz bs-(j+1),ab,j+1,Q,I,au i,au k,J,(g.trans b).trans w⟩
 simp[i,W,C,aB C,show j=cz bs by omega,-ax];exact⟨D,Q⟩
def PI(E:cu h){G b:SV}{a:List GG}(s:ad (gR h) 3 h G.v a)(f:ad (gR h) 3 h b.v a)(q:cz a<1000000)(q:∀g∈a,cz g.init<10000000):aY FF 98 [G.v,b.v] h (Uv h):=by
 have c:=ad.len s;have O:=ad.len f;refine aY.of BK ?_;unfold rm;simp[c,O];refine aK.loop (SmI G b (cz a) h) ?_ (n:=cz a) ⟨0,Q,ab,au c,au O,J,.refl E⟩;rintro m e h'⟨j,rfl,b,b,D,W,g⟩;simp at b D;rw[c] at b;rw[O] at D;unfold qd;by_cases H:j<cz a
 have n:=ch ((j:Int)+1) ab ab;have⟨x,G⟩:=aQ a j H;obtain⟨m,m,m,m,_,_,⟨I,rfl,p⟩,o,r⟩:=ad.later E s G;obtain⟨s,s,s,i,_,_,⟨s,rfl,t⟩,s,d⟩:=ad.later E f G;have k:=r h' g 0 1 ag;have f:=r h' g 1 1 ag;have l:=r h' g 2 1 ag;have w:=d h' g 0 1 ag;have F:=d h' g 1 1 ag;have C:=d h' g 2 1 ag;simp[-ax] at k f l w F C;rw[m] at b;rw[i] at D;have r:=g.cg o;have d:=g.cg s;simp[b,D,W,H,k,f,l,w,F,C,r,d,acf,aI,-ax];have r:=bk g.ok;generalize tick h'=h2 at*;have d:=g.trans r;refine bS.call (V:=Uv h2) (aj (Ob r.ok (p.mono E d λ_ _ r=>r) (t.mono E d λ_ _ r=>r) (q x (cO G)))) ?_;rintro _ G⟨G,rfl⟩;simp[W,n];exact⟨cz a-(j+1),ab,j+1,Q,H,by simp[b,m,c],by simp[D,i,O],J,d.trans G⟩
 simp[b,W,H,show j=cz a by omega];exact⟨g,Q⟩
def XD(a:cu h){G F O I:SV}(k:uR h G F u)(c:uR h O I u)(i:cz u.globals<1000000)(D:∀g∈u.globals,cz g.init<10000000)(H:cz u.funcs<1000000)(H:∀f∈u.funcs,(∀b∈f.blocks,Kr b)/\cz f.blocks<1000000):aY FF 47 [ix ⟨[G.v,F.v]⟩,ix ⟨[O.v,I.v]⟩] h (Uv h):=by
 have m:=ad.len k.2;have p:=ad.len c.2;refine aY.of Ek ?_;unfold vj;have l:¬h.aw=h.aw+1:=ab
 simp[l];refine bh.cut (λw=>ay aR h w/\(di w h.aw [G.v,F.v])/\di w (h.aw+1) [O.v,I.v]) ⟨((ay.refl a).new _ _).new _ _,⟨0,au l⟩,0,J⟩ ?_;rintro w⟨E,⟨l,I⟩,l,F⟩;have W:=k.mono a E;have l:=c.mono a E;refine bh.call (V:=Uv w) (aj (PI E.ok W.1 l.1 i D)) ?_;rintro _ l⟨w,rfl⟩;have O:=w.get E.ok I;have I:=w.get E.ok F;simp at O I;rw[m] at O;rw[p] at I;have m:=E.trans w;simp[O,I];refine aK.loop (ZQ l h.aw 5 (cz u.funcs)) ?_ (n:=cz u.funcs) ⟨0,Q,ab,J,J,J,.refl w.ok⟩;rintro l e h'⟨j,rfl,l,F,l,G,g⟩;have i:=g.ok;have D:=m.trans g;have C:=g.get w.ok O;have O:=g.get w.ok I;unfold rR;by_cases I:j<cz u.funcs
 have m:=ch ((j:Int)+1) ab ab;have⟨f,w⟩:=aQ u.funcs j I;have⟨p,n⟩:=H f (cO w);obtain⟨H,H,H,v,_,_,⟨B,rfl,r⟩,o,H⟩:=ad.later a k.2 w;obtain⟨k,k,k,k,_,_,⟨d,rfl,t⟩,s,q⟩:=ad.later a c.2 w;have w:=H h' D 0 4 ag;have H:=q h' D 0 4 ag;simp[-ax] at w H;rw[v] at C;rw[k] at O;have q:=D.cg o;have c:=D.cg s;have k:=i.cg C;have s:=i.cg O;simp[F,l,G,C,O,aB C,aB O,I,w,H,q,c,k,s,aI,-ax];have O:=bk i;generalize tick h'=h3 at*;have i:=D.trans O;refine bS.call (V:=Uv h3) (by simpa [aC] using aa0 O.ok (name:=f.name) (p:=f.params) (r:=f.aF) (qP.mono r a i) (qP.mono t a i) p n) ?_;rintro _ n⟨n,rfl⟩;simp[G,m];exact⟨cz u.funcs-(j+1),ab,j+1,Q,I,au F,au l,J,(g.trans O).trans n⟩
 simp[F,G,C,aB C,show j=cz u.funcs by omega,-ax];exact⟨D,Q⟩
end
def SO(h:az)(M:Nat)(G:SV)(b:List GG):Prop:=∃a:List XG,eM FW h G a/\UR a b/\(∀c,dt G=Z c->M<=c)/\∀(i:Nat)(y:XG)(g:GG),a[i]?=Z y->b[i]?=Z g->ZE M h y g
def SO.go{S:Nat->Prop}{h h':az}{M:Nat}{G:SV}{H:List GG}(w:SO h M G H)(o:cu h)(g:ay S h h')(E:∀c,S c->c<M\/h.aw<=c):SO h' M G H:=by
 have⟨x,H,G,F,I⟩:=w;refine⟨x,H.go o g λc C e=>?_,G,F,λi y x a b=>?_⟩;have:=F c e;have:=H.lt o e;have:=E c C;omega
 have⟨H,D⟩:=I i y x a b;exact⟨H.go o g λc C e=>by have:=D c e;have:=H.lt o e;have:=E c C;omega,D⟩
def SO.view{h:az}{M:Nat}{G:SV}{a:List GG}(w:SO h M G a):ad (gR h) 3 h G.v a:=by have⟨a,E,o,_,C⟩:=w;exact E.view o.1.symm λi y g a b=>by have⟨D,F⟩:=o.2 i y g a b;exact⟨y.I,by simp[D,F],(C i y g a b).1.view Q (λi x y a c=>by rw[a] at c;cases c;rfl)⟩
def azD(c:az)(U X:Nat)(a:List GG)(m:Nat)(e:Env)(h':az):Prop:=
 ∃(j:Nat) (G:SV) (b:List XG),m=cz a-j/\j<=cz a/\bU e 1 U/\bU e 2 (U+1)/\bU e 3 X/\bC e 4 j/\ay (· =X) c h'/\(di h' X [G.v,dB K 0 0])/\bm FW c.aw h' G.v b/\UR b (a.take j)/\∀(i:Nat)(y:XG)(g:GG),b[i]?=Z y->a[i]?=Z g->ZE c.aw h' y g/\∀c,dt y.I=Z c->¬bx G.v c
def PH{M D:az}(H:cu M)(A:ay aR M D){b:List GG}(f:ad (gR M) 3 M G0.v b)(E:cz b<=10)(r:∀g∈b,cz g.init<1000000)(u:eR D U [G0.v,F0.v] o)(k:U≠X)(P:M.aw<=X)(O:eR D X [dB K 0 0,dB K 0 0] sX)(l:bU e 1 U)(x:bU e 2 (U+1))(I:bU e 3 X)(c:bC e 4 0)(C':∀v h' (G:SV),bU v 1 U->bU v 2 (U+1)->bU v 3 X->ay (· =X) D h'->(di h' X [G.v,dB K 0 0])->SO h' D.aw G b->C (.exit 0) v h'):aK FF (.loop mF) e D C:=by
 have m:=ad.len f;have s:=A.ok;refine aK.loop (azD D U X b) ?_ (n:=cz b) ⟨0,cM,[],Q,ab,l,x,I,c,.refl s,⟨sX,O⟩,jZ ⟨Q,Q⟩,⟨Q,nofun⟩,nofun⟩;rintro q v h'⟨j,G,S,rfl,x,n,q2,N,z,g,⟨Yj,P⟩,w,T,hd⟩;have I:=g.ok;have D:=s.wf _ _ O;have a:ay aR M h':=A.trans' g ai (λc D e=>ab);have l:=g.get s u k;simp at l P;rw[m] at l;have s:cz S=j:=by have:=T.1;simp at this;omega
 unfold mF;by_cases d:j<cz b
 .have wj:=ch ((j:Int)+1) ab ab;have⟨x,k⟩:=aQ b j d;obtain⟨B,F,c,L,_,_,⟨E,rfl,A⟩,u,u⟩:=ad.later H f k;have v:=u h' a 0 3 ag;simp[-ax] at v;rw[L] at l;have f:=g.aw;simp[n,N,z,l,aB l,d,v,aH,bj,-ax];have⟨t,v⟩:∃t,t=put (aJ h' [gX ⟨⟨[]⟩⟩,fc ft 0,dB K 0 0] 0) h'.aw 0 [gX ⟨⟨[]⟩⟩,fc ft 0,dB K 0 0] [gX x.name,fc ft x.size,dB E.a E.l E.c] 0:=⟨_,Q⟩;have u:ay aR h' t:=by rw[v];exact(ay.refl I).var _ _
  have F:t.aw=h'.aw+1:=by rw[v];simp
  have p:t.tr.get h'.aw=Z (.bZ [gX x.name,fc ft x.size,E.v] cd 0 h'.clock):=by rw[v];simp[aX]
  rw[<-v,<-F];clear v;have q:=a.trans u;have⟨F,L,m,f,O⟩:=ID (bytes:=8) u.ok (E:=encI) (z:=[fc ft 0]) rfl ((WD A).cm H q) (r x (cO k)) ag;have a:=O.get u.ok p;refine dh (aj m) ?_;simp at a;have r:=O.get u.ok (u.get I P (λh=>h));have p:=I.wf _ _ P;have m:¬X=h'.aw:=ab
  have A:¬h'.aw=X:=ab
  have H:=bc (off:=2) (vs:=[F.v]) O.ok a;simp at H;have q:=H.get O.ok r m;have r:=O.aw;have p:(put L h'.aw 2 [gX x.name,fc ft x.size,dB E.a E.l E.c] [dB F.a F.l F.c] 0).tr.get h'.aw=Z (.bZ [gX x.name,fc ft x.size,dB F.a F.l F.c] cd 0 L.clock):=by rw[aZ];rfl
  simp[a];generalize put L h'.aw 2 _ _ 0=h5 at*;simp[N,q,p];have E:=(GQ f).go O.ok H λc D e=>av ((wo.dt O.ok f e).1)
  have m:∀c,dt F=Z c->t.aw<=c:=λc e=>(wo.dt O.ok f e).1;have a:=H.aw;have r:=aO H.ok (FW.enc ⟨x.name,x.size,F⟩) 0;have V:ay (· =h'.aw) h' h5:=((u.trans O).cm).trans H;have f:=(w.grow I V (λc D e=>av ((eO w).lt I (dI (A:=G) D)))).grow H.ok r ai;have L:bp FW (aJ h5 (FW.enc ⟨x.name,x.size,F⟩) 0) (dB (Z ⟨h5.aw,0,K⟩) 1 1) [⟨x.name,x.size,F⟩]:=dq (bX _ _ _);have t:(aJ h5 (FW.enc ⟨x.name,x.size,F⟩) 0).aw=h5.aw+1:=Q;have⟨t,u,O,a,p,A⟩:=fg (bytes:=48) r.ok (z:=[gX ⟨⟨[]⟩⟩,fc ft 0,dB K 0 0]) rfl f L ab ag ab;obtain⟨f,rfl⟩:=bm.E5 a;refine dh (aj O) ?_;have O:¬bx G.v X:=λe=>av (w.of e)
  have t:=p.get r.ok (r.get H.ok q λh=>h) O;simp[N,t,z,wj];have O:=bc (off:=0) (vs:=[f.v]) p.ok t;simp at O;have W:ay (bx G.v) h5 u:=r.cm.trans p;have L:∀c,bx G.v c->c<h'.aw:=λc D=>(eO w).lt I (dI (A:=G) D);refine⟨cz b-(j+1),ab,j+1,f,S++[⟨x.name,x.size,F⟩],Q,d,au n,au q2,au N,J,((g.trans' V ai (λc D e=>ab)).trans' W ai (λc D e=>av (w.of e))).trans O,⟨u.clock,by rw[aZ];rfl⟩,a.grow p.ok O (λc D e=>av (A c D)),⟨by simp[s];omega,λi y g a B=>?_⟩,λi y g a B=>?_⟩
  .rcases Kz i j with q|q;rw[MG ab] at a;refine T.2 i y g a ?_;rw[A0,bK q];rwa [A0,bK ab] at B
   .have f:i=j:=by have:=(cY.mp a).1;simp at this;omega
    subst f;rw[OC ab,s] at a;simp at a;rw[A0,bK ab,k] at B;cases B;subst a;exact⟨Q,Q⟩
  .rcases Kz i j with q|q
   .rw[MG ab] at a;have⟨⟨q,x⟩,u⟩:=hd i y g a B;have r:=λc e=>q.lt I (c:=c) e;have F:=q.go I V λc D e=>av (r c e)
    have q:=F.go H.ok W λc D e=>u c e D;exact⟨⟨q.go p.ok O λc D e=>av (x c e),x⟩,λc e v=>by have:=r c e;have:=A c v;omega⟩
   .have f:i=j:=by have:=(cY.mp a).1;simp at this;omega
    subst f;rw[OC ab,s] at a;simp at a;rw[k] at B;cases B;subst a;exact⟨⟨(E.go H.ok W λc D e=>by have:=L c D;have:=m c e;omega).go p.ok O λc D e=>av (m c e),λc e=>av (m c e)⟩,λc e v=>by have:=E.lt H.ok e;have:=A c v;omega⟩
 .have:j=cz b:=ab
  subst this;rw[mO] at T;simp[n,z,l,aB l,-ax];exact C' _ _ G (au n) (au q2) (au N) g ⟨Yj,aj P⟩ ⟨S,eO w,T,λc e=>w.of (nM (eO w) e),λi y g a B=>(hd i y g a B).1⟩
def azC(a:az)(U X:Nat)(G:SV)(V:List GF)(m:Nat)(e:Env)(h':az):Prop:=
 ∃(j:Nat) (F:SV) (c:List XF),m=cz V-j/\j<=cz V/\bU e 1 U/\bU e 2 (U+1)/\bU e 3 X/\bC e 6 j/\ay (· =X) a h'/\(di h' X [G.v,F.v])/\bm x7 a.aw h' F.v c/\cz c=j
def Xl{M D:az}(i:cu M)(z:ay aR M D){G0 F0 G:SV}(r:ad (fR M) 4 M F0.v V)(n:cz V<=10)(N:∀f∈V,(∀b∈f.blocks,Kr b)/\cz f.blocks<100000)(v:eR D U [G0.v,F0.v] o)(p:U≠X)(d:M.aw<=X)(t:eR D X [G.v,dB K 0 0] sX)(u:bU e 1 U)(H:bU e 2 (U+1))(A:bU e 3 X)(T:bC e 6 0)(L:∀k h' (F:SV) O,bU k 2 (U+1)->bU k 3 X->ay (· =X) D h'->(di h' X [G.v,F.v])->bm x7 D.aw h' F.v O->cz O=cz V->C (.exit 2) k h'):aK FF (.loop mE) e D C:=by
 have n:=ad.len r;have S:=z.ok;refine aK.loop (azC D U X G V) ?_ (n:=cz V) ⟨0,cM,[],Q,ab,u,H,A,T,.refl S,⟨sX,t⟩,jZ ⟨Q,Q⟩,Q⟩;rintro m k h'⟨j,F,O,rfl,d,l,y,m,T,g,⟨s,E⟩,a,x⟩;have I:=g.ok;have H:=S.wf _ _ t;have H:ay aR M h':=z.trans' g ai (λc A e=>ab);have w:=g.get S v p;simp at w E;rw[n] at w;unfold mE;by_cases P:j<cz V
 .have S:=ch ((j:Int)+1) ab ab;have⟨f,v⟩:=aQ V j P;have⟨q,G⟩:=N f (cO v);obtain⟨b,n,c,t,_,_,⟨B,rfl,d⟩,u,k⟩:=ad.later i r v;have n:=k h' H 0 4 ag;simp[-ax] at n;rw[t] at w;have r:=g.aw;have p:=H.cg u;have b:=I.cg w;have z:=I.cg E;have k:=I.st _ _ _ _ _ E;simp[l,m,T,w,E,aB w,aB E,P,n,p,b,z,aI,-ax];have z:=bk I;have p:=z.get I E;have t:=a.grow I z ai;have n:(tick h').aw=h'.aw:=Q;generalize tick h'=h3 at*;refine bS.call (V:=lD f.name f.params f.aF f.blocks h3) (by simpa [aC] using ui i (H.trans z) (name:=f.name) (p:=f.params) (r:=f.aF) d q G) ?_;rintro _ d⟨H,W,n,rfl,_,_,_⟩;have v:=H.get z.ok p;have b:=H.aw;simp[aC,v,k];have b:=aO H.ok (x7.enc ⟨f.name,f.params,f.aF,W⟩) 0;have q:=(t.grow z.ok H ai).grow H.ok b ai;have D:bp x7 (aJ d (x7.enc ⟨f.name,f.params,f.aF,W⟩) 0) (dB (Z ⟨d.aw,0,K⟩) 1 1) [⟨f.name,f.params,f.aF,W⟩]:=dq (bX _ _ _);have N:(aJ d (x7.enc ⟨f.name,f.params,f.aF,W⟩) 0).aw=d.aw+1:=Q;obtain⟨k,i,t,N,p,k⟩:=fg (bytes:=56) b.ok (z:=[gX ⟨⟨[]⟩⟩,fc ft 0,fc ft 0,dB K 0 0]) rfl q D ab ag ab;obtain⟨I,rfl⟩:=bm.E5 N;refine mn (by simpa [aC] using t) ?_;have n:¬bx F.v X:=λe=>av (a.of e)
  have r:=p.get b.ok (b.get H.ok v λh=>h) n;simp[m,r,T,S];have n:=bc (off:=1) (vs:=[I.v]) p.ok r;simp at n;exact⟨cz V-(j+1),ab,j+1,I,O++[⟨f.name,f.params,f.aF,W⟩],Q,P,au l,au y,au m,J,(((((g.trans z.cm).trans H.cm).trans b.cm).trans' p ai (λc A e=>av (a.of e)))).trans n,⟨i.clock,by rw[aZ];rfl⟩,N.grow p.ok n (λc A e=>av (k c A)),au x⟩
 .have:j=cz V:=ab
  subst this;simp[l,T,w,aB w,-ax];exact L _ _ F O (au y) (au m) g ⟨s,aj E⟩ a x
def RuQ(u:GU)(h:az)(v:Value)(h':az):Prop:=
 ay aR h h'/\∃(G F:SV) (o:List XF),v=ix ⟨[G.v,F.v]⟩/\eM x7 h' F o/\cz o=cz u.funcs/\(∀c,bx F.v c->h.aw<=c)/\∀(S:Nat->Prop)(a:az),ay S h' a->(∀c,S c->bx F.v c\/h'.aw<=c)->ad (gR a) 3 a G.v u.globals
def aaV(O:cu h)(d:uR h G0 F0 u)(N:cz u.globals<=10)(w:∀g∈u.globals,cz g.init<1000000)(B:cz u.funcs<=10)(X:∀f∈u.funcs,(∀b∈f.blocks,Kr b)/\cz f.blocks<100000):aY FF 15 [ix ⟨[G0.v,F0.v]⟩] h (RuQ u h):=by
 have U:¬h.aw=h.aw+1:=ab
 have C:¬h.aw=h.aw+1+1:=ab
 have z:¬h.aw+1=h.aw+1+1:=ab
 refine aY.of Fx ?_;unfold wL;simp[U,C,z];refine aK.cut (λs=>ay aR h s/\s.aw=h.aw+3/\(di s h.aw [G0.v,F0.v])/\(di s (h.aw+1) [dB K 0 0,dB K 0 0])/\di s (h.aw+1+1) [dB K 0 0,dB K 0 0]) ⟨(((ay.refl O).new _ _).new _ _).new _ _,J,⟨0,by simp[U,C]⟩,⟨0,J⟩,0,J⟩ ?_;rintro s⟨E,F,⟨o,W⟩,⟨v,k⟩,sX,t⟩;refine PH O E d.1 N w (U:=h.aw) (X:=h.aw+1+1) W C ab t J J J J ?_;intro T L G M I H a ⟨A,q⟩ W2;have p:ay aR h L:=E.trans' a ai λc D e=>ab
 have n:=a.get E.ok W C;have P:=a.get E.ok k z;simp;refine Xl O p d.2 B X (U:=h.aw) (X:=h.aw+1+1) n C ab q (au M) (au I) (au H) J ?_;intro X x F m I H T ⟨y,V⟩ acc zl;have N:ay aR h x:=p.trans' T ai λc D e=>ab
 have S:=T.get a.ok P z;simp at V;simp[I,H,V,S];have w:=bc (off:=0) (vs:=[G.v,F.v]) T.ok S;simp at w;have I:=a.aw;have v:=T.aw;have d:=w.aw;refine⟨N.trans' w ai λc D e=>ab,G,F,m,J,(eO acc).go T.ok w (λc D e=>av (acc.of (nM (eO acc) e))),zl,λc D=>av (acc.of D),λS k v l=>?_⟩;refine(W2.go a.ok (S:=λc=>c<s.aw\/L.aw<=c) (((T.cU λc _ e=>jZ ab).trans (w.cU λc _ e=>jZ ab)).trans (v.cU λc _ e=>?_)) (λc h=>h)).view;rcases l c e with e|e
 exact kd (acc.of e);exact kd ab
def acC:∀(a:List Nat)(L:List Nat),a.Nodup->(∀k∈a,k<cz L)->(a.map λk=>L.getD k 0).sum<=L.sum
 |[],_,_,_=>J
 |k::a,L,b,c=>by
  have⟨d,C⟩:=List.nodup_cons.1 b;have b:=c k iY;have w:L[k]?=Z (L.getD k 0):=by simp[List.getD,b]
  have D:=Ay L k 0 _ w;have o:=acC a (L.set k 0) C λj b=>by rw[ly];exact c j (xV _ b)
  have e:(a.map λj=>(L.set k 0).getD j 0)=a.map λj=>L.getD j 0:=cc λj b=>by have:k≠j:=λe=>d (e▸b);simp[List.getD,this]
  rw[e] at o;simp only[xg,O2];omega
def Wr{a:List Nat}(o:Ord (cz bs) a):iz (bu bs a)<=iz bs:=by
 have:=acC a (bs.map λb=>cz b.list) o.nd λk a=>aj (o.lt k a)
 refine qN (Nat.le_of_eq ?_) this;unfold iz bu;rw[bL];congr 1;refine cc λk a=>?_;have:=o.lt k a;simp[List.getD,eW,this]
def PU(bs:List GB)(b:Int):cz (aN bs b)<=cz bs:=Ny ((iB bs b).imp λh e=>ab) λ_ h=>zO h
structure St(n:Nat)(bs:List GB):Prop where
 E:EB bs
 l:iz bs<=300
 p:∀b∈bs,cz b.bz<=300
 x:∀b∈bs,∀x∈b.list,Im x/\cz x.args<=100/\tJ (iU x)=tJ (iT x)
 r:∀b∈bs,vP n (Gy b)
section
variable{n:Nat}{bs:List GB}
def St.ll(S:St n bs){b:GB}(h:b∈bs):cz b.list<=300:=by have⟨i,a⟩:=iG h;have:=DB a;have:=S.l;omega
def St.rg(S:St n bs):ze n bs:=⟨S.r,λb a=>av (S.p b a),λb a=>av (S.ll a),λb a x c=>av ((S.x b a x c).2)⟩
def St.kept(S:St n bs){a:List Nat}(C:nH bs a):St n (bu bs a):=by
 have o:∀b∈bu bs a,∃X∈bs,∃f N w,b=eW f N w X:=λb a=>by unfold bu at a;obtain⟨k,D,rfl⟩:=kC.1 a;have⟨X,c⟩:=aQ bs k (C.o.lt k D);exact⟨X,cO c,_,_,_,by rw[c];rfl⟩
 refine⟨C.eb S.E,qN (Wr C.o) S.l,λb a=>?_,λb a=>?_,(S.rg.kept C.o).r⟩<;>obtain⟨X,c,f,N,w,rfl⟩:=o b a;simpa [eW] using S.p X c;exact S.x X c
def St.step(S:St n bs){a t:Nat}{B T:GB}(c:dE bs a t B T):St n (cG bs a t B T):=by
 have E:∀b∈cG bs a t B T,∃(i:Nat) (X:GB),bs[i]?=Z X/\b=dU bs a t B T i X:=λb o=>by have⟨i,F⟩:=iG o;have⟨X,a,D⟩:=gf F;exact⟨i,X,a,D⟩
 refine⟨c.eb S.E,by rw[c.lists];exact S.l,λb o=>?_,λb o x a=>?_,(c.aF S.rg.al).r⟩<;>obtain⟨i,X,C,rfl⟩:=E b o;have M:=S.p X (cO C);by_cases w:i=t;unfold dU;rw[bK w];simp[uw];rw[mM w];split;simpa [Et] using M;exact M
 unfold dU at a;split at a;simp[uw] at a;split at a;rcases kg.1 a with h|h;exact S.x B (cO c.hb) x h;exact S.x T (cO c.ht) x h;refine S.x X (cO C) x ?_;split at a<;>exact a
def DQ.st(s:DQ bs g)(S:St n bs):St n g:=by
 induction s with
 |refl=>exact S
 |step _ c a=>
  rw[c.kept a.E];exact(a.step c).kept (c.left a.E)
def St.Hv(S:St n bs):∀b∈bs,Kr b:=λb a=>by have⟨i,o⟩:=iG a;refine⟨av (S.p b a),av (S.ll a),λp c=>?_,λx w=>av ((S.x b a x w).2),av (S.E.two a)⟩;rw[S.E.rows i b o p c];have:=PU bs i;have:=S.E.n50;omega
def St.inJ(S:St n bs){b t:Nat}{B T:GB}(c:dE bs b t B T):∀x∈jm bs b t T,Kr x:=λx o=>by
 have⟨i,a⟩:=iG o;by_cases e:i=t;subst e;rw[Wh c] at a;cases a;have w:=cO c.ht;exact⟨J,by have:=S.ll w;simp;omega,J,λx o=>av ((S.x T w x o).2),J⟩
 rw[Je c S.E e] at a;exact(S.step c).Hv x (cO a)
def WO{p:Nat}(h:p<=n):vP n (ku p)/\(ku p).Nodup:=by
 refine⟨λr c=>?_,?_⟩;obtain⟨k,a,rfl⟩:=kC.1 c;have:=OB.1 a;omega
 exact List.pairwise_map.2 (List.nodup_range.imp λh e=>h ab)
def ab9:∀(es:List Int){l:List Int},vP n l->vP n es->vP n (dz l es)
 |[],_,h,_=>h
 |e::es,l,h,c=>ab9 es (l:=ee l e) (λr a=>by unfold ee at a;split at a;exact h r a;rcases kg.1 a with a|a;exact h r a;exact c r (by simp at a;simp[a])) λr a=>c r (xV _ a)
def Bf(h:vP n l/\l.Nodup)(c:vP n es):(vP n (dz l es)/\(dz l es).Nodup)/\cz (dz l es)<=n:=by have a:=ab9 es h.1 c;have b:=ab_ es h.2;exact⟨⟨a,b⟩,Ny b a⟩
def qz{x:Type}{f:x->List Int}{xs:List x}(h:∀x∈xs,vP n (f x)):vP n (xs.flatMap f):=λr a=>by have⟨x,c,a⟩:=ba.1 a;exact h x c r a
def St.metIn(S:St n bs){p:Nat}(E:p<=n)(O:n<1000):af1 p bs:=by
 have F:VQ bs:=λb a x w=>(S.x b a x w).1;have C:∀b∈bs,vP n (Sy b):=λb a=>Zc (S.r b a);have o:∀b∈bs,∀q∈b.bz,vP n (tJ q.row):=λb a q c=>((kD.1 (S.r b a)).1 q c).snd;have P:=WO E;have D:=Bf P (qz C);have I:=S.E.n50;refine⟨ab,ab,S.p,λb a=>S.ll a,λb a x w=>(S.x b a x w).2.1,λb a q c=>by have:=(S.Hv b a).lr q c;have⟨i,I⟩:=iG a;rw[S.E.rows i b I q c];have:=PU bs i;omega,λj=>?_,λi b j a=>?_,?_⟩
 rw[CS λb a=>F b (ET a)];have:=(Bf P (qz (xs:=bs.take j) λb a=>C b (ET a))).2;omega
 rw[Ts,HJ,CS F];have H:=Bf D.1 (qz (f:=W7) (xs:=bs.take i) λb a=>qz (o b (ET a)));have:=(Bf H.1 (qz (f:=λq:GP=>tJ q.row) (xs:=b.bz.take j) λq c=>o b (cO a) q (ET c))).2;omega
 unfold HI;rw[HJ,CS F];have:=(Bf D.1 (qz (f:=W7) (xs:=bs) λb a=>qz (o b a))).2;omega
end
def afi{n p:Nat}(S:St n bs)(T:PR p bs q)(s:DQ (bu bs (eH bs)) t)(a:∀x,xY t x):fT p t=q:=by obtain⟨w,D,c,I,rfl⟩:=T;have o:=s.st (S.kept S.E.HV);have e:=adb S.E s a D c;have C:=o.kept o.E.HV;have F:VQ (bu t (eH t)):=λb E x H=>(C.x b E x H).1;unfold fT uB;rw[acb F,e]
def RtZ(name:ByteArray)(p n:Nat)(bs:List GB)(h:az)(v:Value)(h':az):Prop:=
 ∃t,DQ (bu bs (eH bs)) t/\(∀x,xY t x)/\lD name p (fT p t).1 (fT p t).2 h v h'
def RtI(name:ByteArray)(p:Nat)(r:Int)(h:az)(c:List GB)(m:Nat)(b:Env)(h':az):Prop:=
 ∃(g:List GB) (B:SV) (a:List YB),m=cz g/\DQ c g/\bU b 2 (h.aw+1)/\bU b 3 (h.aw+2)/\(ay aR h h'/\h.aw+3<=h'.aw)/\(di h' (h.aw+1) [gX ⟨⟨[]⟩⟩,fc ft 0,fc ft 0,dB K 0 0])/\(di h' (h.aw+2) (aC name p r B))/\FZ h' (h.aw+3) B a/\a.map YB.g=g
def aaT(i:cu M)(N:ay aR M h){name:ByteArray}{p n:Nat}{r:Int}(A:qP M B bs)(S:St n bs)(G:p<=n)(m:n<1000):aY FF 17 [ix ⟨aC name p r B⟩] h (RtZ name p n bs h):=by
 have I:=N.ok;have E:=S.E;have d:=S.Hv;have U:¬h.aw=h.aw+1:=ab
 have f:¬h.aw=h.aw+1+1:=ab
 have o:=E.HV.o;have D:=o.len;have u:=E.n50;have j:cz (bu bs (eH bs))=cz (eH bs):=by simp[bu]
 refine aY.of Fv ?_;unfold wK;simp[aC,U,aI,bj,eY,-ax];refine bS.cut (λs=>ay aR h s/\s.aw=h.aw+3/\s.tr.get h.aw=Z (.bZ (aC name p r B) cd 0 0)/\(di s (h.aw+1) [gX ⟨⟨[]⟩⟩,fc ft 0,fc ft 0,dB K 0 0])/\s.tr.get (h.aw+2)=Z (.bZ [gX ⟨⟨[]⟩⟩,fc ft 0,fc ft 0,dB K 0 0] cd 0 0)) ?_ ?_;exact⟨((((ay.refl I).new _ _).new _ _).tick).new _ _,J,by simp[aC,U,f],⟨0,J⟩,J⟩;rintro s⟨H,F,D,⟨j,k⟩,U⟩;have V:=N.aw;refine bS.call (V:=λv h'=>ay aR s h'/\∃L:SV,v=L.v/\bm encI s.aw h' L.v (nI (eH bs))) (by simpa [aC] using Kd H.ok (name:=name) (p:=p) (r:=r) (A.mono i (N.trans H)) E.ends E.n1) ?_;rintro _ b⟨F,O,rfl,w⟩;have I:=(N.trans H).trans F;have V:=F.get H.ok D;have P:=F.get H.ok k;have y:=F.get H.ok U;simp[aC] at V;simp[V];refine bS.call (V:=lD name p r (bu bs (eH bs)) b) (by simpa [aC] using Gq I.ok (.refl I.ok) (name:=name) (p:=p) (r:=r) (A.mono i I) E d w.sl ab o.lt) ?_;rintro _ x⟨b,N,k,rfl,q,I,i⟩;have I:=b.get F.ok P;have a:=b.get F.ok y;have D:h.aw+2=h.aw+1+1:=Q;rw[D] at a;simp[aC,a];have O:=bc (off:=0) (vs:=[gX name,fc ft p,fc ft r,N.v]) b.ok a;have j:(put x (h.aw+1+1) 0 [gX ⟨⟨[]⟩⟩,fc ft 0,fc ft 0,dB K 0 0] [gX name,fc ft p,fc ft r,N.v] 0).tr.get (h.aw+1+1)=Z (.bZ [gX name,fc ft p,fc ft r,N.v] cd 0 x.clock):=by rw[aZ];rfl
 simp only[SV.AA] at O j;have U:=O.get b.ok I ab;have D:=H.aw;have D:=F.aw;have a:=q.go b.ok O (λc l e d=>av (q.new l c d));have u:=(H.trans F).trans b;have V:ay aR h _:=u.trans' O ai (λc A e=>ab);generalize put x (h.aw+1+1) 0 _ _ 0=h4 at*;refine aK.loop (RtI name p r h (bu bs (eH bs))) ?_ (n:=cz (bu bs (eH bs))) ⟨_,N,k,Q,.refl _,J,J,⟨V,by have:=b.aw;have:=O.aw;omega⟩,⟨_,U⟩,⟨_,by simpa [aC] using j⟩,a.cU ab,i⟩;rintro H k h'⟨g,N,z,rfl,O,j,F,⟨H,U⟩,⟨a,x⟩,⟨b,U⟩,u,y⟩;have k:=H.ok;have C:=O.st (S.kept E.HV);subst y;unfold tZ;simp[F,aC] at U⊢;simp[U];refine bh.call (V:=ar8 (z.map YB.g) h') (by simpa [aC] using WT k (.refl k) (name:=name) (p:=p) (r:=r) u.view C.E) ?_;rintro _ S⟨a,A⟩;have q:=a.get k U;have P:=a.get k x;have b:=H.aw;have w:=a.aw;have V:=u.view.mono k a;rcases A with⟨rfl,no⟩|⟨b,t,X,T,rfl,c⟩
 simp[j,F,q];refine bh.call (V:=lD name p (fT p (z.map YB.g)).1 (fT p (z.map YB.g)).2 S) (by simpa [aC] using Xd a.ok (.refl a.ok) (name:=name) (p:=p) (r:=r) V C.E C.Hv ((C.kept C.E.HV).metIn G m)) ?_;rintro _ i⟨w,D,u,rfl,x,k,m⟩;have W:=w.get a.ok P;simp[aC,j,W];have⟨y,W⟩:di i (h.aw+1) [gX ⟨⟨[]⟩⟩,fc ft 0,fc ft 0,dB K 0 0]:=⟨_,W⟩;have I:=bc (off:=0) (vs:=[gX name,fc ft p,fc ft (fT p (z.map YB.g)).1,dB D.a D.l D.c]) w.ok W;refine⟨_,O,no,((H.trans a).trans w).trans' I ai (λc A e=>ab),D,u,by simp[aC],(x.go w.ok I λc l e d=>av (x.new l c d)).cU ab,k,m⟩
 .have y:=(cY.mp c.hb).1;have G:¬(b:Int)<0:=ab
  simp[j,F,q,G];refine bh.call (V:=lD name p r (bu (jm (z.map YB.g) b t T) (kr (cz (z.map YB.g)) t)) S) (by simpa [aC] using TV a.ok (.refl a.ok) (name:=name) (p:=p) (r:=r) V C.E C.Hv c (c.ebJ C.E) (C.inJ c) (by have:=C.ll (cO c.hb);have:=C.ll (cO c.ht);omega)) ?_;rintro _ i⟨w,D,u,rfl,x,k,m⟩;have y:=w.get a.ok q;have W:=w.get a.ok P;simp[aC,F,y];have⟨S,y⟩:di i (h.aw+2) [gX name,fc ft p,fc ft r,dB N.a N.l N.c]:=⟨_,y⟩;have I:=bc (off:=0) (vs:=[gX name,fc ft p,fc ft r,dB D.a D.l D.c]) w.ok y;have p:=I.get w.ok W ab;have d:cz (bu (jm (z.map YB.g) b t T) (kr (cz (z.map YB.g)) t))<cz z:=by have i:=(cY.mp c.ht).1;have s:cz (kr (cz (z.map YB.g)) t)<cz (aU (cz (z.map YB.g))):=List.length_filter_lt_length_iff_exists.2 ⟨t,OB.2 i,J⟩;simpa [bu] using s
  refine⟨_,d,_,D,u,Q,.step O c,au j,au F,⟨((H.trans a).trans w).trans' I ai (λc A e=>ab),by have:=w.aw;have:=I.aw;omega⟩,⟨_,p⟩,⟨_,by rw[aZ];rfl⟩,(x.go w.ok I λc l e d=>av (x.new l c d)).cU ab,m⟩
section
variable{n:Nat}{bs:List GB}{b:Nat}{r:GB}{d:Int}
def Mf(i:Nat)(x:GB):(FT bs b r d i x).list=x.list:=by unfold FT;dsimp only;split<;>split<;>rfl
def an3(h:z∈AU bs b r d):∃(i:Nat) (y:GB),y∈bs/\z=FT bs b r d i y:=by have⟨i,c⟩:=iG h;have⟨y,a,e⟩:=zU c;exact⟨i,y,cO a,e⟩
def ac3:(AU bs b r d).map (λb=>cz b.list)=bs.map λb=>cz b.list:=by refine BT λi=>?_;rw[gM,gM];rcases h:bs[i]? with _|y;rw[xU (by rw[Dk];exact List.getElem?_eq_none_iff.1 h)];rw[YW h,Eo,Eo,Mf]
def St.cut(S:St n bs)(O:bs[b]?=Z r)(a:d∈r.to):St n (AU bs b r d):=by refine⟨S.E.cut O a,by unfold iz;rw[ac3];exact S.l,λz C=>?_,λz C=>?_,λz C=>?_⟩<;>obtain⟨i,y,a,rfl⟩:=an3 C;rw[Hm];split;simpa [Ph] using S.p y a;exact S.p y a;rw[Mf];exact S.x y a;have⟨D,E,H⟩:=kD.1 (S.r y a);refine kD.2 ⟨λS o=>?_,by rw[Mf];exact E,?_⟩;rw[Hm] at o;split at o;obtain⟨q,I,rfl⟩:=kC.1 o;intro v c;refine D q I v ?_;unfold vG at c⊢;rcases kg.1 c with h|h;exact aW _ h;have⟨w,F,a⟩:=ba.1 h;refine af _ (ba.2 ⟨w,?_,a⟩);rcases kg.1 F with h|h;exact ET h;exact List.mem_of_mem_drop h;exact D S o;unfold FT;dsimp only;split;intro v c;simp[kq] at c;split<;>exact H
def St.jmp(S:St n bs)(b:Nat):St n (CQ bs b):=by unfold CQ;split;rename_i r a;split;rename_i h;have⟨t,u,c,o⟩:=Li S.E a h.1;refine S.cut a ?_;rw[c];split<;>simp;exact S;exact S
def St.Ti(S:St n bs):∀k,St n (vJ bs k)
 |0=>S
 |k+1=>(S.Ti k).jmp k
def St.steps{a:List GB}(s:Steps bs a)(S:St n bs):St n a:=by
 induction s with
 |refl=>exact S
 |step _ c o=>exact o.step c
def KV(L:List Int)(v:Bool×Int):kq (bq L v)=(kq v).map (aV L):=by unfold kq bq;split<;>simp[*]
def Dt(L:List Int):∀a:List (Bool×Int),tJ (a.map (bq L))=(tJ a).map (aV L)
 |[]=>rfl
 |v::a=>by have:=Dt L a;unfold tJ at*;rw[xg,ez,ez,aL,KV,this]
def XP(L:List Int)(x:GI):iT (qL L x)=(iT x).map (bq L):=by unfold iT qL;dsimp only;split;rfl;split;rfl;split;rfl;split<;>rfl
def aji(L:List Int)(x:GI):iU (qL L x)=(iU x).map (bq L):=by unfold iU qL;dsimp only;rw[aL,aL];congr 1;split<;>rfl;congr 1;split<;>rfl
def aeI(L:List Int)(k:Int):aN (bs.map (Aw L)) k=aN bs k:=by refine Bp (iB _ _) (iB _ _) λa=>?_;rw[cJ,cJ];constructor;rintro⟨i,rfl,w,a,c⟩;rw[gM] at a;obtain⟨x,o,rfl⟩:=ed.1 a;exact⟨i,Q,x,o,c⟩;rintro⟨i,rfl,x,a,c⟩;exact⟨i,Q,Aw L x,by rw[gM,a];rfl,c⟩
def Jp{L:List Int}(h:z∈bs.map (Aw L)):∃y∈bs,z=Aw L y:=by have⟨y,a,b⟩:=kC.1 h;exact⟨y,a,b.symm⟩
def EB.ren(E:EB bs)(L:List Int):EB (bs.map (Aw L)):=by refine⟨aj E.n1,aj E.n50,λz a=>?_,λz a t C=>?_,λi z a D w=>?_,λz a=>?_⟩;obtain⟨y,c,rfl⟩:=Jp a;exact E.kind y c;obtain⟨y,c,rfl⟩:=Jp a;rw[AZ];exact E.to y c t C;rw[gM] at a;obtain⟨y,c,rfl⟩:=ed.1 a;obtain⟨q,o,rfl⟩:=kC.1 w;rw[aeI];simpa [Eu] using E.rows i y c q o;obtain⟨y,c,rfl⟩:=Jp a;simpa [Aw] using E.pl y c
def akC{L:List Int}{y:GB}{v:Int}(h:v∈Gy (Aw L y)):∃w∈Gy y,v=aV L w:=by
 have C:∀ {u:Bool×Int},v∈kq (bq L u)->∃w∈kq u,v=aV L w:=fun {u} h=>by rw[KV] at h;obtain⟨w,o,rfl⟩:=kC.1 h;exact⟨w,o,Q⟩
 have D:∀ {us:List (Bool×Int)},v∈tJ (us.map (bq L))->∃w∈tJ us,v=aV L w:=fun {us} h=>by rw[Dt] at h;obtain⟨w,o,rfl⟩:=kC.1 h;exact⟨w,o,Q⟩
 unfold Gy at h⊢;rcases kg.1 h with h|h
 .have⟨O,F,a⟩:=ba.1 h;obtain⟨q,E,rfl⟩:=kC.1 F;have d:∀w,w∈vG q->w∈y.bz.flatMap vG++(y.list.flatMap CD++kq y.on):=λw o=>aW _ (ba.2 ⟨q,E,o⟩);unfold vG at a;rcases kg.1 a with a|a
  exact⟨q.dst,d _ (aW _ (bl.2 Q)),by simpa [Eu] using a⟩;have⟨w,b,c⟩:=D a;exact⟨w,d _ (af _ b),c⟩
 .rcases kg.1 h with h|h
  .obtain⟨H,H,a⟩:=ba.1 h;obtain⟨x,I,rfl⟩:=kC.1 H;have d:∀w,w∈CD x->w∈y.bz.flatMap vG++(y.list.flatMap CD++kq y.on):=λw o=>af _ (aW _ (ba.2 ⟨x,I,o⟩));unfold CD at a;rcases kg.1 a with a|a
   have⟨w,b,c⟩:=C a;exact⟨w,d _ (aW _ b),c⟩;rcases kg.1 a with a|a;have⟨w,b,c⟩:=C a;exact⟨w,d _ (af _ (aW _ b)),c⟩;rcases kg.1 a with a|a;have⟨w,b,c⟩:=D a;exact⟨w,d _ (af _ (af _ (aW _ b))),c⟩;by_cases e:0<=x.dst;refine⟨x.dst,d _ (af _ (af _ (af _ (au e)))),?_⟩;simp only[qL,bK e] at a;split at a;simpa using a;cases a;simp only[qL,bM e] at a;cases a
  have⟨w,b,c⟩:=C h;exact⟨w,af _ (af _ b),c⟩
def St.ren{p:Nat}(S:St n bs)(I:p<=n):St (cz (qD p bs)) (bs.map (Aw (qD p bs)))/\p<=cz (qD p bs)/\cz (qD p bs)<=n:=by
 have⟨L,o⟩:∃L,L=qD p bs:=⟨_,Q⟩;have H:∀b∈bs,∀v∈Gy b,v∈L:=λb D v C=>by rw[o];exact tU _ _ (ba.2 ⟨b,D,C⟩)
 have W:=Bf (WO I) (qz (f:=Sy) (xs:=bs) λb D=>Zc (S.r b D));have O:=Bf W.1 (qz (f:=Gy) (xs:=bs) S.r);have E:p<=cz L:=by
  have d:=((mj (bs.flatMap Sy) (ku p)).trans (mj (bs.flatMap Gy) _)).length_le;rw[o];unfold qD;have:cz (ku p)=p:=by simp[ku]
  omega
 rw[<-o];refine⟨⟨S.E.ren L,?_,λz c=>?_,λz c p V=>?_,λz c v C=>?_⟩,E,by rw[o];exact O.2⟩
 .have:iz (bs.map (Aw L))=iz bs:=by unfold iz;rw[bL];congr 1;exact cc λy _=>by simp[Aw]
  rw[this];exact S.l
 obtain⟨y,a,rfl⟩:=Jp c;simpa [Aw] using S.p y a;obtain⟨y,a,rfl⟩:=Jp c;obtain⟨x,D,rfl⟩:=kC.1 V;have⟨d,p,F⟩:=S.x y a x D;refine⟨?_,by simpa [qL] using p,by rw[aji,XP,Dt,Dt,F]⟩;unfold Im at d⊢;rw[XP,Dt,d];unfold qL;dsimp only;rw[KV,KV,Dt,aL,aL];obtain⟨y,a,rfl⟩:=Jp c;obtain⟨w,c,rfl⟩:=akC C;have⟨k,d,_,F⟩:=Ar (H y a w c);omega
def St.names{p:Nat}(S:St n bs)(a:p<=n):St (uB p bs).1 (uB p bs).2/\p<=(uB p bs).1/\(uB p bs).1<=n:=(S.kept S.E.HV).ren a
def PR.st{p:Nat}(T:PR p bs q)(S:St n bs)(a:p<=n):St q.1 q.2/\p<=q.1/\q.1<=n:=by obtain⟨o,c,_,_,rfl⟩:=T;exact(St.steps c (S.kept S.E.HV)).names a
def DQ.names{p:Nat}{t:List GB}(s:DQ (bu bs (eH bs)) t)(S:St n bs)(c:p<=n):St (fT p t).1 (fT p t).2/\p<=(fT p t).1/\(fT p t).1<=n:=by have a:=s.st (S.kept S.E.HV);have o:=a.kept a.E.HV;have F:VQ (bu t (eH t)):=λb w x C=>(o.x b w x C).1;have:=a.names c;unfold fT;rw[acb F];exact this
end
section
variable{bt:Int}{fx:List (Int×Int)}{bs:List GB}{n:Nat}
def ie(bt:Int)(fx:List (Int×Int))(bs:List GB):List GB:=bs.map (Az bt fx)
def aba(b:Int):aN (ie bt fx bs) b=aN bs b:=lQ (by simp[ie]) (λi x c c a=>by unfold ie at a;rw[gM,c] at a;cases a;rfl) b
def DL{b:GB}(c:b∈ie bt fx bs):∃x∈bs,b=Az bt fx x:=by obtain⟨x,a,rfl⟩:=kC.1 c;exact⟨x,a,Q⟩
def XN{x:GB}{q:GP}(c:q∈(Az bt fx x).bz):∃p∈x.bz,q=Qy fx p:=by obtain⟨p,a,rfl⟩:=kC.1 c;exact⟨p,(EL.1 a).1,Q⟩
def XM{x:GB}{y:GI}(a:y∈(Az bt fx x).list):∃z∈x.list,y=Al fx z:=by obtain⟨z,x,rfl⟩:=kC.1 (EL.1 a).1;exact⟨z,x,Q⟩
def Jy(x:GB):cz ((Az bt fx x).bz)<=cz x.bz/\cz ((Az bt fx x).list)<=cz x.list:=by refine⟨?_,?_⟩;show((xp (λq=>qF fx q.dst) x.bz).map (Qy fx)).length<=_;rw[AZ];exact IW _ _;show((x.list.map (Al fx)).filter (jW bt fx)).length<=_;exact qN (IW _ _) J
def EB.kz(E:EB bs):EB (ie bt fx bs):=by
 have o:cz (ie bt fx bs)=cz bs:=by simp[ie]
 refine⟨by rw[o];exact E.n1,by rw[o];exact E.n50,λb a=>?_,λb a=>?_,λi b a p w=>?_,λb a=>?_⟩;obtain⟨x,c,rfl⟩:=DL a;exact E.kind x c;obtain⟨x,c,rfl⟩:=DL a;rw[o];exact E.to x c;rw[aba];unfold ie at a;rw[gM] at a;rcases c:bs[i]? with _|x;rw[c] at a;cases a;rw[c] at a;cases a;obtain⟨q,C,rfl⟩:=XN w;show(q.row.map (fw fx)).length=_;rw[AZ];exact E.rows i x c q C
 obtain⟨x,c,rfl⟩:=DL a;exact Nat.lt_of_le_of_lt (Jy x).1 (E.pl x c)
def QH(fx:List (Int×Int))(r:Int):Bool:= !qF fx r
def IM(v:Bool×Int):kq (fw fx v)=(kq v).filter (QH fx):=by
 have⟨o,a⟩:=v;cases o;simp[fw,kq]
 .have e:cS fx (ck,a)=pG fx a:=Q;by_cases c:(pG fx a).1=1;simp[fw,kq,e,c,QH,qF]
  .have k:QH fx a=ck:=by simp[QH,qF,c]
   simp[fw,kq,e,c,k]
def Dr(l:List (Bool×Int)):tJ (l.map (fw fx))=(tJ l).filter (QH fx):=by unfold tJ;rw[List.filter_flatMap,List.flatMap_map];exact congrArg (λf=>List.flatMap f l) (funext λv=>IM v)
def XO(x:GI):iT (Al fx x)=(iT x).map (fw fx):=by
 unfold iT;show(if x.op=21 then [] else if x.op=20 then x.args.map (fw fx) else if(2<=x.op/\x.op<=15)\/x.op=19 then [fw fx x.a,fw fx x.b] else if 1<=x.op/\x.op<=22 then [fw fx x.a] else [])=_
 repeat' split
 all_goals rfl
def ajh(x:GI):iU (Al fx x)=(iU x).map (fw fx):=by
 unfold iU;show(if(dX x.op).2.1=ck then [fw fx x.a] else [])++((if(dX x.op).2.2=ck then [fw fx x.b] else [])++x.args.map (fw fx))=_;rw[aL,aL];congr 1
 split<;>rfl;congr 1;split<;>rfl
def alj{x:GI}(h:Im x):Im (Al fx x):=by unfold Im at h⊢;rw[XO,Dr,h,dQ,dQ];show _=kq (fw fx x.a)++(kq (fw fx x.b)++tJ (x.args.map (fw fx)));rw[IM,IM,Dr]
def C8{r:Int}(h:r∈l.filter (QH fx)):r∈l:=(EL.1 h).1
def J3:∀bs:List GB,iz (ie bt fx bs)<=iz bs
 |[]=>fq _
 |c::bs=>by have a:=J3 bs;have b:=(Jy (bt:=bt) (fx:=fx) c).2;simp only[ie,iz,xg,O2] at a b⊢;omega
def agA{x:GB}{r:Int}(h:r∈Gy (Az bt fx x)):r∈Gy x:=by
 unfold Gy at h⊢;rcases kg.1 h with h|h;have⟨q,o,h⟩:=ba.1 h;obtain⟨p,a,rfl⟩:=XN o;refine aW _ (ba.2 ⟨p,a,?_⟩);unfold vG at h⊢;rcases kg.1 h with h|h;exact aW _ h;exact af _ (C8 (by rw[<-Dr];exact h))
 .refine af _ ?_;rcases kg.1 h with h|h
  .have⟨y,c,h⟩:=ba.1 h;obtain⟨z,a,rfl⟩:=XM c;refine aW _ (ba.2 ⟨z,a,?_⟩);have h:r∈kq (fw fx z.a)++(kq (fw fx z.b)++(tJ (z.args.map (fw fx))++if 0<=z.dst then [z.dst] else [])):=h;unfold CD;rw[IM,IM,Dr] at h;rcases kg.1 h with h|h
   exact aW _ (C8 h);rcases kg.1 h with h|h;exact af _ (aW _ (C8 h));rcases kg.1 h with h|h;exact af _ (af _ (aW _ (C8 h)));exact af _ (af _ (af _ h))
  have h:r∈kq (fw fx x.on):=h;rw[IM] at h;exact af _ (C8 h)
def St.kz(S:St n bs):St n (ie bt fx bs):=by refine⟨S.E.kz,qN (J3 bs) S.l,λb a=>?_,λb a y w=>?_,λb a r C=>?_⟩;obtain⟨x,c,rfl⟩:=DL a;exact qN (Jy x).1 (S.p x c);obtain⟨x,c,rfl⟩:=DL a;obtain⟨z,d,rfl⟩:=XM w;have⟨b,o,D⟩:=S.x x c z d;refine⟨alj b,by show(z.args.map (fw fx)).length<=_;rw[AZ];exact o,?_⟩;rw[ajh,XO,Dr,Dr,D];obtain⟨x,c,rfl⟩:=DL a;exact S.r x c r (agA C)
end
section
variable{S d m:Nat}{name:ByteArray}{p r:Int}{B k:SV}{n0 aF:Nat}{ys:List YB}{fx:List (Int×Int)}
def OZ.to{a:Nat->Prop}(w:OZ h n0 ys)(C:cu h)(g:ay a h h')(D:∀c,a c->∀o,dV cM ys o≠Z c):OZ h' n0 ys:=
 ⟨λy a=>by have⟨i,F⟩:=iG a;exact(w.r y a).go C g λc l E e=>D c E (Z (i,l)) (by rw[cC F];exact e),w.inj,w.new⟩
def FZ.oz(w:FZ h n0 B ys)(C:xS B ys):OZ h n0 ys/\∀c,dt B=Z c->∀o,dV cM ys o≠Z c:=by
 have a:∀o c,dV cM ys o=Z c->o≠K/\dV B ys o=Z c:=λo c e=>by
  match o with
  |none=>cases e
  |some (i,l)=>exact⟨nofun,e⟩
 refine⟨⟨w.r,λd b c f D=>C d b c (a d c f).2 (a b c D).2,λo c e=>w.new o c (a o c e).2⟩,λc E o e=>(a o c e).1 (w.tQ K o c E (a o c e).2).symm⟩
def Ks(ys:List YB)(c:Nat):Prop:=∃o,dV cM ys o=Z c
def Ks.s{c:Nat}(h:Ks ys c):cK B ys c:=by
 have⟨o,e⟩:=h
 match o with
 |none=>cases e
 |some (i,l)=>exact⟨Z (i,l),e⟩
structure ZP(h:az)(n0:Nat)(B:SV)(ys:List YB)(bt:Int)(fx:List (Int×Int))(j:Nat)(h':az)(ds:List YB)(W:SV):Prop where
 g:ay (Ks ys) h h'
 O:OZ h' n0 (ds++ys.drop j)
 len:cz ds=j
 m:ds.map YB.g=ie bt fx ((ys.take j).map YB.g)
 s:∀o c,dV cM (ds++ys.drop j) o=Z c->Ks ys c\/h.aw<=c
 acc:bm eF h.aw h' W.v ds
 nW:∀c,dt W=Z c->∀o,dV cM (ds++ys.drop j) o≠Z c
 nB:∀c,dt B=Z c->∀o,dV cM (ds++ys.drop j) o≠Z c
def TdI(h:az)(n0:Nat)(B:SV)(ys:List YB)(bt:Int)(fx:List (Int×Int))(S F R:Nat)(c:Nat)(a:Env)(h':az):Prop:=
 ∃(j:Nat) (b:List YB) (W:SV),c=cz ys-j/\j<=cz ys/\bC a 0 bt/\bU a 3 F/\bU a 4 R/\bU a 5 S/\bY a 6=W.v/\bC a 12 (cz ys)/\bC a 13 j/\ZP h n0 B ys bt fx j h' b W
def Ur(I:cu h)(O:FZ h n0 B ys)(v:xS B ys)(A:n0<=h.aw)(G:cz ys<50)(n:∀y∈ys,Ye aF y.g)(P:Sv h S d m aF name p r B k fx)(X:¬Ks ys S)(G:¬Ks ys d)(V:0<=bt/\bt<1000000000){F R:Nat}(i:bC e 0 bt)(N:bU e 3 F)(c:bU e 4 R)(a:bU e 5 S)(s:bY e 6=cM.v)(x:bC e 12 (cz ys))(U:bC e 13 0)(C':∀g h' w W,bU g 3 F->bU g 4 R->bY g 6=SV.v W->ZP h n0 B ys bt fx (cz ys) h' w W->C (.exit 0) g h'):aK FF (.loop uF) e h C:=by
 have H:S<h.aw:=by have⟨L,f,M⟩:=P.hS;exact I.wf _ _ M
 have D:d<h.aw:=by have⟨L,f⟩:=P.hd;exact I.wf _ _ f
 have⟨A,f⟩:=O.oz v;refine aK.loop (TdI h n0 B ys bt fx S F R) ?_ (n:=cz ys) ⟨0,[],cM,Q,ab,i,N,c,a,s,x,U,.refl I,A,Q,Q,λo c e=>jZ ⟨o,e⟩,jZ ⟨Q,Q⟩,(λc e=>by cases e),f⟩;rintro q g h'⟨j,w,W,rfl,x,N,U,M,g,s,q,A,T⟩;have x:=T.g.ok;have v:=T.g.aw;unfold uF;by_cases L:j<cz ys
 .have wj:=ch ((j:Int)+1) ab ab;have⟨y,v⟩:=aQ ys j L;have E:(w++ys.drop j)[j]?=Z y:=by rw[fC T.len,v]
  have b:eM eF h' B ys:=O.A.go I T.g λc ⟨o,a⟩ e=>f c e o a;have f:=P.grow I T.g X G;have no:∀ {c:Nat},c<h.aw->¬Ks ys c->¬gq y c:=λa P ⟨l,e⟩=>(T.s (Z (j,l)) _ (by rw[cC E];exact e)).elim P ab;simp[N,U,g,s,q,A,L];refine bh.call (V:=λu t=>∃z,u=ix ⟨eF.enc z⟩/\z.g=Az bt fx y.g/\eD h' t y z) (aj (abc x b v (T.O.r y (cO E)) (T.O.inj.r E) f (no H X) (no D G) V (n y (cO v)))) ?_;rintro _ t⟨z,rfl,ey,D⟩;have V:∀c,dt W=Z c->¬gq y c:=λc a ⟨l,e⟩=>T.nW c a (Z (j,l)) (by rw[cC E];exact e);have P:=T.acc.grow x D.g (λb n e=>V b (dI n) e);have X:=T.O.py x ab E D;rw[set_drop T.len v] at X;have H:∀o c,dV cM ((w++[z])++ys.drop (j+1)) o=Z c->(∃o,dV cM (w++ys.drop j) o=Z c)\/h'.aw<=c:=λo c e=>by
   rw[<-set_drop T.len v] at e
   match o with
   |none=>cases e
   |some (f,l)=>
    by_cases V:j=f
    .subst V;have b:j<cz (w++ys.drop j):=(cY.mp E).1;simp only[dV,fO,bK,b,Option.bind_some] at e;rcases D.s l c e with⟨n,G,_⟩|G
     exact jZ ⟨Z (j,n),by rw[cC E];exact G⟩;exact kd G
    simp only[dV,fO,bM V] at e;exact jZ ⟨Z (f,l),e⟩
  simp;have V:=aO D.g.ok (eF.enc z) 0;have fU:=P.grow D.g.ok V ai;have P:bp eF (aJ t (eF.enc z) 0) (dB (Z ⟨t.aw,0,K⟩) 1 1) [z]:=dq (bX _ _ _);have f:=D.g.aw;have b:=T.len;obtain⟨b,h4,b,f,n,hd4⟩:=fg (bytes:=96) V.ok (z:=[dB K 0 0,dB K 0 0,fc ft 0,dC cd,fc ft 0,dB K 0 0]) rfl fU P ab ag (by simp;omega);obtain⟨W',rfl⟩:=bm.E5 f;refine dh (aj b) ?_;have P:∀c,dt W=Z c->∀o,dV cM ((w++[z])++ys.drop (j+1)) o≠Z c:=λc a o e=>by rcases H o c e with⟨o,e⟩|G;exact T.nW c a o e;have:=(bm.arr T.acc).lt x a;omega
  have x:=X.to D.g.ok V (λ_ h=>h.elim);have O4:=x.to V.ok n (λc a=>P c (dI a));have g04:ay (Ks ys) h h4:=by refine((T.g.trans' D.g ai λx P e=>?_).trans V.cm).trans' n ai λx P e=>?_;have⟨l,e⟩:=e;exact(T.s (Z (j,l)) x (by rw[cC E];exact e)).elim id ab;have:=T.acc.of e;omega
  simp[A,wj];refine⟨cz ys-(j+1),ab,j+1,w++[z],W',Q,L,au N,au U,au M,au g,J,au q,J,g04,O4,by simp[T.len],?_,λo c e=>?_,f,λc a o e=>?_,λc a o e=>?_⟩;rw[aL,T.m,kh,v];simp[ie,ey];rcases H o c e with⟨o,e⟩|G;exact T.s o c e;exact kd ab
  .have L:=X.lt D.g.ok e;have:c=(aJ t (eF.enc z) 0).aw:=hd4 c (by rcases(bm.arr f).2 with⟨b,_⟩|⟨b2,_,_,_,b,_⟩;simp[dt,b] at a;rw[cD b] at a;cases a;exact fH b)
   simp at this;omega
  rcases H o c e with⟨o,e⟩|G;exact T.nB c a o e;have:=O.A.lt I a;omega
 .have:j=cz ys:=ab
  subst this;simp[q,A];exact C' _ _ w W (au U) (au M) (au s) T
def ZP.kz{a:List YB}{W:SV}(T:ZP h n0 B ys bt fx (cz ys) h' a W)(F:n0<=h.aw):cV h h' n0 B ys W a/\a.map YB.g=ie bt fx (ys.map YB.g):=by
 have O:=T.O;have s:=T.s;have D:=T.nW;rw[bE,Bx] at O s D;have f:xS W a:=λd b c w C=>by
  match d,b with
  |none,K=>exact jZ rfl
  |none,Z (i,l)=>exact absurd C (D c w (Z (i,l)))
  |some (i,l),K=>exact absurd w (D c C (Z (i,l)))
  |some (i,l),Z (k,E)=>exact O.inj (Z (i,l)) (Z (k,E)) c w C
 have H:∀o c,dV W a o=Z c->cK B ys c\/h.aw<=c:=λo c e=>by
  match o with
  |none=>exact kd (bm.dt T.acc e)
  |some (i,l)=>exact(s (Z (i,l)) c e).imp Ks.s id
 refine⟨⟨⟨bm.arr T.acc,O.r,λd b c w C=>(f d b c w C).imp id λh=>h.1.elim,λo c e=>?_⟩,λc ⟨o,e⟩=>H o c e,T.g.cU λ_ _ h=>Ks.s h,λ_=>f⟩,?_⟩
 .match o with
  |none=>exact qN F (bm.dt T.acc e)
  |some (i,l)=>exact O.new (Z (i,l)) c e
 have:=T.m;rwa [mO] at this
end
def Yu(bt:Int)(p n:Nat)(bs:List GB)(q:Nat×List GB):Prop:=∃a b,uq bs p n a b/\PR p (vJ (ie bt a bs) (cz bs)) q
def Ov(h:vP n es){v:Bool×Int}(k:∀r∈kq v,r∈es):rS n v:=λe=>h v.2 (k v.2 (by unfold kq;rw[bK e];exact bl.2 Q))
def St.RK(S:St n bs){b:GB}(c:b∈bs):Ye n b:=by
 have R:=S.r b c;have H:=S.E.n50;refine⟨av (S.p b c),av (S.ll c),λq w=>⟨?_,λv C=>Ov R λr a=>?_,?_⟩,λx D=>?_,Ov R λr a=>af _ (af _ a)⟩
 exact R q.dst (aW _ (ba.2 ⟨q,w,aW _ (bl.2 Q)⟩));exact aW _ (ba.2 ⟨q,w,af _ (ba.2 ⟨v,C,a⟩)⟩);have⟨i,E⟩:=iG c;have:=S.E.rows i b E q w;have:=mP bs i;omega
 have o:∀r∈CD x,r∈Gy b:=λr a=>af _ (aW _ (ba.2 ⟨x,D,a⟩));have⟨_,F,_⟩:=S.x b c x D;refine⟨?_,Ov R λr a=>o r (aW _ a),Ov R λr a=>o r (af _ (aW _ a)),λv C=>Ov R λr a=>o r (af _ (af _ (aW _ (ba.2 ⟨v,C,a⟩)))),ab⟩;by_cases M:0<=x.dst;exact(R x.dst (o _ (af _ (af _ (af _ (by rw[bK M];exact bl.2 Q)))))).2;omega
def ai9(S:St n bs):IA n (Edge.df (cw bs)) bs:=by
 have E:=S.E;have I:=E.n50;have F:cz (Edge.df (cw bs))=cz bs:=by rw[Edge.lM];simp[cw]
 have row:∀(i:Nat)(ps:List Int),(Edge.df (cw bs))[i]?=Z ps->ps=aN bs i:=λi ps h=>by have:=E.ahead (k:=i) (av ((cY.mp h).1));rw[h] at this;exact gD this
 have C:=λi:Nat=>mP bs i;refine⟨ab,F,λi ps h=>?_,λi b ps a h=>?_,λb a=>?_,λb a=>(S.RK a).on,λb a=>?_⟩;rw[row i ps h];refine⟨av (C i),λx c=>?_⟩;obtain⟨k,rfl,y,D,_⟩:=cJ.1 c;have:=(cY.mp D).1;omega
 have w:=cO a;have U:=S.RK w;exact⟨av U.pl,λq o=>⟨(U.ph q o).1,by rw[row i ps h];exact E.rows i b a q o,(U.ph q o).2.1⟩⟩
 have U:=S.RK a;exact⟨av U.ll,λx c=>⟨(U.li x c).1,(U.li x c).2.1,(U.li x c).2.2.1⟩⟩;exact⟨av (E.two a),λt H=>av (E.to b a t H)⟩
def Xx(f:cu h)(z:0<=bt/\bt<1000000000){name:ByteArray}{p g a:Nat}{b:List YB}(r:g<=h.aw)(W:FZ h g B b)(r:xS B b)(S:St a (b.map YB.g))(O:p<=a)(H:a<1000000):aY FF 56 [fc ft bt,ix ⟨aC name p a B⟩] h (λv h'=>∃q,Yu bt p a (b.map YB.g) q/\zd name p g B b q h v h'):=by
 have H:=S.E;have w:=H.n50;rw[AZ] at w;have I:=ai9 S;have l:=W.A.len;have i:∀c,h.aw<=c->¬cK B b c:=λc k e=>av (W.mq f e)
 have D:¬h.aw=h.aw+1:=ab
 refine aY.of O7 ?_;unfold EE;simp[aC,D];refine bh.cut (λd=>ay aR h d/\(di d h.aw (aC name p a B))/\di d (h.aw+1) [gX ⟨⟨[]⟩⟩,fc ft 0,fc ft 0,dB K 0 0]) ?_ ?_;exact⟨((ay.refl f).new _ _).new _ _,⟨0,by simp[D,aC]⟩,0,J⟩;rintro d⟨D,⟨E,x⟩,j,j⟩;have F:=D.ok.wf _ _ j;have F:=W.cm f D;refine bh.call (V:=af9 d a name p a B (b.map YB.g) p) (by simpa [aC] using aa4 D.ok (name:=name) (P:=p) (n:=a) F.view H I O ab) ?_;rintro _ F⟨C,I,d,m,I,I,u,rfl,H,d,t,L⟩;have m:=D.trans C;have d:=C.get D.ok x;have x:=C.get D.ok j;have j:=W.cm f m;have H:=d;simp[aC] at H;have d:=D.aw;have D:=C.aw;have D:∀c,h.aw<=c->¬Ks b c:=λc k e=>i c k (Ks.s e);simp[H];refine Ur C.ok j r ab w (λy w=>S.RK (KA w)) t (D _ ab) (D _ ab) z (F:=h.aw) (R:=h.aw+1) J J J J (by simp[cM]) (au l) J ?_;intro l w D V j l z t;have⟨d,s⟩:=t.kz ab;have n:=d.g.get C.ok H (i _ (fq _));have A:=d.g.get C.ok x (i _ ab);have x:=d.g.aw;have V3:=d.w.A.len;have x:=t.len;have t:∀c,c<F.aw->¬cK B b c->¬cK V D c:=λc k b e=>(d.s c e).elim b ab;simp[j,l,z,n];refine bh.cut (λb=>ay (· =h.aw) w b/\di b h.aw (aC name p a V)) ?_ ?_
 exact⟨bc d.g.ok n,w.clock,by simp[aC,aX]⟩;rintro b⟨H,w,k⟩;have w:=t h.aw ab (i _ (fq _));have n:=t (h.aw+1) ab (i _ ab);have i:=(((cV.refl W f).cm m).trans d).go H (λc e=>⟨ab,λh=>by rw[e] at h;exact w h⟩);have m:St a (D.map YB.g):=by rw[s];exact S.kz
 have S:=H.aw;refine bh.call (V:=λ_ h'=>∃S,cV b h' g V D V S/\S.map YB.g=vJ (D.map YB.g) (cz D)) (by simpa [j] using Wj H.ok i.w ab k w m.E) ?_;rintro _ b⟨D,o,S⟩;have f:=o.g.get H.ok k w;have k:=o.g.get H.ok (H.get d.g.ok A ab) n;have d:=o.g.aw;have w:=f;simp[aC] at w;have d:St a (D.map YB.g):=by rw[S];exact m.Ti _
 have H:=i.trans o;simp[j,l,w];refine bh.call (V:=λv h'=>∃q,PR p (D.map YB.g) q/\zd name p g V D q b v h') (by simpa [aC] using aa8 o.g.ok (name:=name) ab o.w (H.x r) d.E d.rg (λb r=>av (d.ll r)) O ab) ?_;rintro _ m⟨⟨d,i⟩,r,g,w,rfl,a,j⟩;have b:=H.trans a;have O:¬cK V D (h.aw+1):=λe=>(o.s _ e).elim n ab;have D:¬cK g w (h.aw+1):=λe=>(a.s _ e).elim O ab;have n:=a.g.get o.g.ok k O;simp[aC,l,n];have l:=(ay.refl a.g.ok).put (S:=(· =h.aw+1)) (off:=0) (vs:=[cW name,aA ft p,aA ft d,bf g.a g.l g.c]) ⟨_,n⟩ (kd Q);generalize put m _ _ _ _ _=h7 at l⊢;rw[S,s,x] at r;refine⟨d,i,⟨I,u,L,by rw[AZ];exact r⟩,g,w,by simp[aC],b.go l (λc e=>⟨ab,λh=>by rw[e] at h;exact D h⟩),j⟩
def Ni:∀bs:List GB,iz bs<=dF bs
 |[]=>fq _
 |b::bs=>by have:=Ni bs;simp only[iz,dF,xg,O2] at this⊢;omega
def iv.st(F:iv f):St f.aF.toNat f.blocks:=by have w:=F.head.many;refine⟨F.eb,?_,λb a=>?_,λb a x o=>?_,F.aqB.r⟩;have:=Ni f.blocks;omega;have:=jF a;omega;have⟨i,c⟩:=iG a;have h:=(F.body.LQ i b c).list x o;exact⟨h.inF,av ((vU h).2),h.inV⟩
def RE(P:ni):ni:=λf q=>(∀r,P f r->r=q)/\(∀b∈q.2,Kr b)/\cz q.2<50/\dF q.2<1000000
def Nl{k:Nat} :∀ {bs:List GB},(∀b∈bs,cz b.bz+cz b.list<=k)->dF bs<=cz bs*k
 |[],_=>by simp[dF]
 |b::bs,h=>by have a:=h b iY;have a:=Nl (bs:=bs) λx c=>h x (xV _ c);simp only[dF,List.length_cons,xf,Nat.one_mul] at a⊢;omega
def St.in3(S:St n g):(∀b∈g,Kr b)/\cz g<50/\dF g<1000000:=by
 have c:=S.E.n50;refine⟨S.Hv,c,?_⟩;have:=Nl (k:=600) (bs:=g) λb a=>by have c:=S.p b a;have o:=S.ll a;omega
 have:cz g*600<=50*600:=IX _ ab;omega
def LC(bt:Int):ni:=λf q=>Yu bt f.params.toNat f.aF.toNat f.blocks q
def Yu.st{bt:Int}{p n m:Nat}{bs:List GB}{q:Nat×List GB}(u:Yu bt p m bs q)(S:St n bs)(a:p<=n):St q.1 q.2/\p<=q.1/\q.1<=n:=by obtain⟨p,p,_,T⟩:=u;exact T.st (S.kz.Ti _) a
def iv.ref(F:iv f)(a:f.params.toNat<=f.aF.toNat){l b:List (Int×Int)}(L:uq f.blocks f.params.toNat f.aF.toNat l b)(s:DQ (bu (vJ (ie bt l f.blocks) (cz f.blocks)) (eH (vJ (ie bt l f.blocks) (cz f.blocks)))) t)(no:∀x,xY t x):RE (LC bt) f (fT f.params.toNat t):=by have S:St f.aF.toNat (vJ (ie bt l f.blocks) (cz f.blocks)):=F.st.kz.Ti _;refine⟨λr ⟨i,V,M,T⟩=>?_,(s.names S a).1.in3⟩;cases L.eq M;exact(afi S T s no).symm
def aa7(o:cu h)(D:0<=bt/\bt<1000000000){W c:Nat}(C:eR h W [fc ft bt] c){name:ByteArray}{p c aF:Nat}{a:List YB}(O:c<=h.aw)(O:FZ h c B a)(d:xS B a)(S:St aF (a.map YB.g))(g:p<=aF)(f:aF<1000000):fh FF (.func (.func 55) #[] #[eU (Z ⟨W,0,K⟩)]) [ix ⟨aC name p aF B⟩] h (λv h'=>∃q,Yu bt p aF (a.map YB.g) q/\zd name p c B a q h v h'):=by
 refine fh.func ?_;refine aY.of O8 ?_;unfold EF;have w:¬h.aw=h.aw+1:=ab
 have F:=o.wf _ _ C;have F:=o.cg C;have F:¬W=h.aw:=ab
 have E:¬W=h.aw+1:=ab
 simp[aC,w,C,F,E];refine bh.cut (λw=>ay aR h w/\(di w (h.aw+1) [gX ⟨⟨[]⟩⟩,fc ft 0,fc ft 0,dB K 0 0])) ?_ ?_;exact⟨((ay.refl o).new _ _).new _ _,⟨0,J⟩⟩;rintro w⟨b,⟨I,I⟩⟩;have F:=b.aw;have F:=b.ok.wf _ _ I;refine bh.call (V:=λv h'=>∃q,Yu bt p aF (a.map YB.g) q/\zd name p c B a q w v h') (by simpa [aC] using Xx b.ok D (name:=name) (p:=p) ab (O.cm o b) d S g f) ?_;rintro _ S⟨q,D,w,c,rfl,T2,g⟩;have d:¬cK B a (h.aw+1):=λe=>av (O.mq o e)
 have H:¬cK w c (h.aw+1):=λe=>(T2.s _ e).elim d ab;have f:=T2.g.get b.ok I d;simp[aC,f];have a:=(ay.refl T2.g.ok).put (S:=(· =h.aw+1)) (off:=0) (vs:=[cW name,aA ft p,aA ft q.1,bf w.a w.l w.c]) ⟨_,f⟩ (kd Q);generalize put S _ _ _ _ _=h3 at a⊢;exact⟨q.1,q.2,D,w,c,by simp[aC],(((cV.refl O o).cm b).trans T2).go a (λc e=>⟨ab,λh=>by rw[e] at h;exact H h⟩),g⟩
def ama(F:iv f)(T:LC bt f q):Y1 q.2:=by have o:=F.head.aF;have S:=(Yu.st T F.st ab).1;have c:=S.E.n50;exact⟨ab,λb a=>⟨av (S.p b a),av (S.ll a)⟩⟩
def ae9(l:cu h){G F:SV}(s:uR h G F u){W c:Int}(j:∀a,ay aR h a->aY FF 13 [ix ⟨[G.v,F.v]⟩] a (λv h'=>v=ix ⟨[fc ft W,fc ft c]⟩/\AK (Ex u) a v h')):aY FF 25 [ix ⟨[G.v,F.v]⟩] h (DoZ (LC (ja u.globals)) u W c h):=by
 refine aY.of U6 ?_;unfold JH;have D:¬h.aw=h.aw+1:=ab
 have m:¬h.aw=h.aw+1+1:=ab
 simp[D,m];refine bh.cut (λa=>ay aR h a/\(di a h.aw [G.v,F.v])/\(di a (h.aw+1) [dB K 0 0,dB K 0 0])/\(di a (h.aw+1+1) [fc ft 0,fc ft 0])) ?_ ?_;exact⟨(((ay.refl l).new _ _).new _ _).new _ _,⟨0,by simp[D,m]⟩,⟨0,J⟩,⟨0,J⟩⟩;rintro a⟨D,⟨o,n⟩,⟨A,x⟩,⟨t,m⟩⟩;refine bh.call (V:=λv h'=>v=ix ⟨[fc ft W,fc ft c]⟩/\AK (Ex u) a v h') (aj (j a D)) ?_;rintro _ E⟨rfl,w,d,G,i,H⟩;simp at i;obtain⟨rfl,rfl⟩:=i;have i:=D.trans w;have r:=w.get D.ok n;have n:=w.get D.ok x;have x:=w.get D.ok m;have p:=D.ok.wf _ _ m;have m:=w.aw;have m:¬h.aw+1+1=h.aw+1:=ab
 have p:¬h.aw+1=h.aw+1+1:=ab
 rcases H with H|⟨rfl,rfl,D⟩
 .have O:(W==0)=cd:=by simp[H]
  have k:¬h.aw+1=E.aw:=ab
  have b:¬h.aw+1+1=E.aw:=ab
  have z:¬E.aw=h.aw+1:=ab
  have I:¬E.aw=h.aw+1+1:=ab
  simp[O,n,x,k,b,z,I,m,p,aH,aI];have O:ay aR h (tick (put (aJ E [fc ft 0,fc ft 0] 0) E.aw 0 [fc ft 0,fc ft 0] [fc ft W,fc ft c] 0)):=(i.var _ _).tick;exact⟨(O.put ⟨A,by simp[n,k]⟩ (jZ ab)).put ⟨t,by simp[x,b,m]⟩ (jZ ab),cM,cM,W,c,Q,jZ ⟨H,Q,Q,Q,Q⟩⟩
 .have c:=r;simp at c;have k:¬h.aw=E.aw:=ab
  simp[c,k];refine bh.cut (λc=>ay aR E c) ((ay.refl w.ok).var _ _) ?_;intro c O;have k:=i.trans O;have C:Y0 u.globals:=⟨D.unit.gn,λg i=>⟨(D.unit.gs g i).1,(D.unit.gs g i).2.1⟩⟩;refine bh.call (V:=RG u.globals c) (aj (Ws (F:=F) k.ok (amB (s.1.mono l k λ_ _ c=>c)) C)) ?_;rintro _ c⟨b,rfl⟩;have I:=O.trans b;have F:=I.get w.ok r;have r:=I.get w.ok n;have n:=I.get w.ok x;have w:=F;simp at w;have F:=b.ok.wf _ _ n;have F:¬h.aw=c.aw:=ab
  simp[w,F];refine bh.cut (λF=>ay aR c F/\di F c.aw [fc ft (ja u.globals)]) ⟨(ay.refl b.ok).var _ _,c.clock,by simp[aX]⟩ ?_;rintro F⟨O,w,z⟩;have w:=(k.trans b).trans O;have A:=O.get b.ok r;have k:=O.get b.ok n;have b:=JB C.2;have b:=C.1;refine bh.call (V:=amk (LC (ja u.globals)) u.globals u.funcs F) (by simpa using Y9 (P:=LC (ja u.globals)) (fv:=.func (.func 55) #[] #[eU (Z ⟨c.aw,0,K⟩)]) w.ok (s.mono l w) C.1 (λg i=>av ((D.unit.gs g i).2)) D.unit.fn D.form (λf i q T=>ama (D.form f i) T) (λf i a a c c B s y M N s s s s x I b l=>by
   have r:=D.form f i;have i:f.aF.toNat=c:=ab
   have L:f.params.toNat=a:=ab
   have n:=r.st;rw[i,<-l] at n;have j:=aa7 y (bt:=ja u.globals) ab (M.get w.ok z) (name:=f.name) (p:=a) (aF:=c) N I b n s x;rw[l] at j;unfold LC;rw[i,L];exact j)) ?_
  rintro _ L⟨c,a,i,d,G,rfl,H⟩;have l:=c.get O.ok A;have n:=c.get O.ok k;simp[l,n,m,p];have j:=((ay.refl c.ok).put (S:=λx=>x=h.aw+1\/x=h.aw+1+1) (off:=0) (vs:=[bf a.a a.l a.c,bf i.a i.l i.c]) ⟨_,l⟩ (kd (jZ Q))).put (b:=h.aw+1+1) (off:=0) (cs:=[fc ft 0,fc ft 0]) (o:=0) (vs:=[fc ft d,fc ft G]) ⟨t,au n⟩ (kd (kd Q));generalize put (put L _ _ _ _ _) _ _ _ _ _=h7 at j⊢;have L:h.aw+1+1<F.aw:=O.ok.wf _ _ k;exact⟨(w.trans c).trans' j ai (λx x e=>ab),a,i,d,G,J,kd ⟨Q,Q,D,(H.go j λd H=>jZ ab).low w.aw⟩⟩
def ZT(bs:List GB)(d c:List (Int×Int))(k:Nat)(a:List (Int×Int)):Prop:=∀(b:Nat)(x:GB),b<k->bs[b]?=Z x->jB c b=ck->UP d c b (aN bs b) x.bz (cz x.bz) a/\OT d x.list (cz x.list) a
def CH(bs:List GB)(c a:List (Int×Int))(b:Nat):List (Int×Int):=match bs[b]? with
 |some x=>if jB a b then zY b x.kind (cS c x.on) x.to else []
 |none=>[]
def iM(bs:List GB)(b a:List (Int×Int))(k:Nat):List (Int×Int):=(aU k).flatMap (CH bs b a)
def Ba(bs:List GB)(b a:List (Int×Int))(k:Nat):iM bs b a (k+1)=iM bs b a k++CH bs b a k:=by unfold iM;rw[List.range_succ,List.flatMap_append];simp
def adn(E:EB bs)(b a:List (Int×Int))(k:Nat):cz (CH bs b a k)<=2:=by unfold CH;rcases h:bs[k]? with _|x;simp;dsimp only;split;exact qN (Qq ..) (E.two (cO h));simp
def Dv{bs:List GB}(E:EB bs)(b a:List (Int×Int)):∀k,cz (iM bs b a k)<=2*k
 |0=>by simp[iM]
 |k+1=>by rw[Ba,X0];have:=Dv E b a k;have:=adn E b a k;omega
section
variable{M d:az}{p:Nat->Prop}{X S r n:Nat}{w N G:SV}{s F:List (Int×Int)}
def azs(bs:List GB)(P:Nat)(s F:List (Int×Int))(i:List (Int×Int))(M d:az)(p:Nat->Prop)(X S r n:Nat)(v c R:Nat)(m:Nat)(a:Env)(h':az):Prop:=
 ∃(j:Nat) (b:List (Int×Int)),m=cz bs-j/\j<=cz bs/\bU a 2 v/\bU a 3 c/\bU a 4 R/\bU a 5 X/\bC a 7 j/\BU M d p h' X S r n b (iM bs s F j)/\C1 (λm=>∃a,Uw bs P s F m a) (ZT bs s F j) i b
def acO{P:Nat}(T:cu M)(w':BU M d p h X S r n i [])(OP:cu d)(k':GN M w N G s F)(hl:cz s=n)(Ld:cz F<1000000)(fk:AG s){p' r':Int}(hB:qP M B bs)(S':St n bs){v Kb R E W:Nat}(hF:eR d v (aC name p' r' B) E)(prF:p v)(hK:eR d Kb [w.v,N.v,G.v] W)(prK:p Kb)(f2:bU e 2 v)(f3:bU e 3 Kb)(f4:bU e 4 R)(f5:bU e 5 X)(f7:bC e 7 0)(C':∀e' h' fz,bU e' 4 R->bU e' 5 X->BU M d p h' X S r n fz (iM bs s F (cz bs))->C1 (λm=>∃A,Uw bs P s F m A) (ZT bs s F (cz bs)) i fz->C (.exit 2) e' h'):aK FF (.loop mK) e h C:=by
 have E':=S'.E;have EM:=E'.n50;have eo:=ad.len hB;refine aK.loop (azs bs P s F i M d p X S r n v Kb R) ?_ (n:=cz bs) ⟨0,i,Q,ab,f2,f3,f4,f5,f7,by simpa [iM] using w',.refl λb x h=>ab⟩;rintro m e' h'⟨j,fz,rfl,hj,q2,q3,q4,q5,q7,g,u1⟩;have ok:=g.g.ok;have vH:=g.gz.get OP hF (λh=>h prF);have Q1:=g.gz.get OP hK (λh=>h prK);have Po:=vH;simp[aC] at Po;rw[eo] at Po;have gl:=Dv E' s F j;unfold mK;by_cases bg:j<cz bs
 .have wj:=ch ((j:Int)+1) ab ab;have⟨x,z⟩:=aQ bs j bg;have MX:=cO z;have U:=S'.RK MX;have gx:CH bs s F j=if jB F j=ck then zY j x.kind (cS s x.on) x.to else []:=by unfold CH;rw[z]
  have W':=Ba bs s F j;simp at Q1;simp[q2,q3,q7,Po,bg,Q1,-ax,aB Po,aB Q1];refine bh.call (V:=λu hh=>u=dC (jB F j)/\ay aR h' hh) (aj (Ve ok (k'.cm T g.g) Ld (j:Int))) ?_;rintro _ H⟨rfl,k⟩;have w2:=g.cm k;cases c:jB F j
  rw[c,bM J] at gx;rw[gx,Bx] at W';simp[q7,wj];refine⟨cz bs-(j+1),ab,j+1,fz,Q,bg,au q2,au q3,au q4,au q5,J,by rw[W'];exact w2,u1.up,u1.ls,λb y hb I D=>?_⟩;by_cases e:b=j;subst e;rw[c] at D;cases D;exact u1.c b y ab I D
  .rw[c,bK rfl] at gx;rw[gx] at W';obtain⟨b1,Gh,c1,fD,_,_,⟨P1,L1,T1,rfl,sP,sL,sT⟩,o1,mi⟩:=ad.later T hB z;have jg:=k.get ok vH;have qU:=jg;simp[aC] at qU;rw[fD,eo] at qU;have r1:=mi H w2.g 0 6 ag;simp[-ax] at r1;have oF2:=k.ok.cg jg;have nF2:¬v=H.aw:=av oF2.lt
   simp[q2,q7,qU,bg,r1,nF2,oF2,-ax,aB qU,aH,cn,bj];have⟨a,eh3,l,sX,dK⟩:∃a,a=put (aJ H [dB K 0 0,dB K 0 0,fc ft 0,dC cd,fc ft 0,dB K 0 0] 0) H.aw 0 [dB K 0 0,dB K 0 0,fc ft 0,dC cd,fc ft 0,dB K 0 0] [dB P1.a P1.l P1.c,dB L1.a L1.l L1.c,fc ft x.kind,dC x.on.1,fc ft x.on.2,dB T1.a T1.l T1.c] 0/\ay aR H a/\di a H.aw [P1.v,L1.v,fc ft x.kind,dC x.on.1,fc ft x.on.2,T1.v]:=⟨_,Q,(ay.refl k.ok).var _ _,H.clock,by simp[aX]⟩;rw[<-eh3];have w3:=w2.cm l;have lX:=l.ok.wf _ _ dK;have ux:=l.get k.ok jg;refine bh.call (V:=λv' h'=>ay aR a h'/\∃L:SV,v'=L.v/\bm encI a.aw h' L.v (aN bs j)) (by simpa [aC,fD,eo] using C6 l.ok (name:=name) (p:=p') (r:=r') (hB.mono T w3.g) ab (λy I=>av (E'.two I)) (j:Int)) ?_;rintro _ h4⟨O,L9,rfl,Yw⟩;have iV:cz (aN bs j)<1000000:=av (mP bs j)
   have l3:=l.aw;have l4:=O.aw;have l2:=k.aw;have ln:=g.gz.aw;have A9:=bm.arr Yw;have⟨o,V⟩:∃o:Nat->Prop,o=λc=>p c\/c=H.aw\/dt L9=Z c:=⟨_,Q⟩;have prl:∀c,o c->c<h4.aw:=λc D=>by rw[V] at D;rcases D with e|e|e;have:=w'.pl c e;omega;omega;exact A9.lt O.ok e
   have w4:BU M h4 o h4 X S r n fz (iM bs s F j):=g.base ((k.trans l).trans O) (λc D=>by rw[V] at D;rcases D with e|e|e;exact jZ e;exact kd ab;exact kd (av (bm.dt Yw e))) prl;have pX:o H.aw:=by rw[V];exact kd (jZ Q)
   have pK:o Kb:=by rw[V];exact jZ prK
   have pF:o v:=by rw[V];exact jZ prF
   have pL:∀c,dt L9=Z c->o c:=λc D=>by rw[V];exact kd (kd D)
   have iI:=O.get l.ok dK;have hK4:=((k.trans l).trans O).get ok Q1;simp;refine akl (M:=λm=>∃A,Uw bs P s F m A) T w4 O.ok k' hl Ld fk A9 pL iV sP (av U.pl) (λq hq=>⟨(U.ph q hq).1,E'.rows j x z q hq,(U.ph q hq).2.1⟩) (λm ⟨A,hm⟩ i' q _ hq j' t v' _ h1 H a=>(hm.bZ j x z c).NP q (cO hq) j' t v' h1 H a) (aj hK4) pK iI pX (au q3) (au q5) (au q7) J J J ?_;rintro e5 h5 K5⟨f5,w5,u5⟩;have a2:=K5.at (t:=2) (ak q2);have a3:=K5.at (t:=3) (ak q3);have a4:=K5.at (t:=4) (ak q4);have a5:=K5.at (t:=5) (ak q5);have a7:=K5.at (t:=7) (ak q7);have a8:bU e5 8 H.aw:=K5.at J;simp;refine akk (M:=λm=>∃A,Uw bs P s F m A) T w5 O.ok k' hl sL (av U.ll) (λy I=>⟨(U.li y I).1,(U.li y I).2.1,(U.li y I).2.2.1⟩) (λm ⟨A,hm⟩ i' y _ I M=>(hm.bZ j x z c).ins y (cO I) M) (aj hK4) pK iI pX (au a3) (au a5) (au a8) J ?_;rintro e6 h6 K6⟨f6,w6,u6⟩;have b2:=K6.at (t:=2) (ak a2);have b3:=K6.at (t:=3) (ak a3);have b4:=K6.at (t:=4) (ak a4);have b5:=K6.at (t:=5) (ak a5);have b7:=K6.at (t:=7) (ak a7);have b8:=K6.at (t:=8) (ak a8);have nz:=w6.gz.get O.ok iI (λh=>h pX);have hK6:=w6.gz.get O.ok hK4 (λh=>h pK);simp at nz;simp[b3,b8,nz,hK6,-ax,aB nz,aB hK6];refine bh.call (V:=λu hh=>u=.tuple #[fc ft (cS s x.on).1,fc ft (cS s x.on).2]/\ay aR h6 hh) (aj (DO w6.g.ok (k'.cm T w6.g) hl U.on)) ?_;rintro _ h7⟨rfl,g7⟩;have w7:=w6.cm g7;simp;refine akj (b:=j) (k:=(cS s x.on).1) (nn:=(cS s x.on).2) T w7 O.ok ab sT (av (E'.two MX)) iI pX (au b5) (au b7) (au b8) J J J ?_;intro e8 h8 K8 w8;have c2:=K8.at (t:=2) (ak b2);have c3:=K8.at (t:=3) (ak b3);have c4:=K8.at (t:=4) (ak b4);have Y:=K8.at (t:=5) (ak b5);have c7:=K8.at (t:=7) (ak b7);simp[c7,wj];rw[<-W'] at w8;have w9:=w8.back (hz0:=d) (pr':=p) (g.gz.trans ((k.trans l).trans O).cm) (λc D=>by rw[V];exact jZ D) w'.pl;refine⟨cz bs-(j+1),ab,j+1,f6,Q,bg,au c2,au c3,au c4,au Y,J,w9,(u1.trans (F:=λf=>ZT bs s F j f/\UP s F j (aN bs j) x.bz (cz x.bz) f) u5 λt up b=>⟨λb y h1 H a=>⟨(t b y h1 H a).1.up up,(t b y h1 H a).2.up up⟩,b⟩).trans u6 λt up d' b y hb I D=>?_⟩;by_cases e:b=j
   subst e;rw[z] at I;cases I;exact⟨t.2.up up,d'⟩;have:=t.1 b y ab I D;exact⟨this.1.up up,this.2.up up⟩
 .have:j=cz bs:=ab
  subst this;simp[q2,q7,Po,-ax,aB Po];exact C' _ _ fz (au q4) (au q5) g u1
end
section
variable{M a:az}{b:Nat->Prop}{X k d n:Nat}{p N G:SV}{m c:List (Int×Int)}
def asv:List Nat:=[6,29,30,31,32,33,34,35,36,37,38]
def azt(P:Nat)(i:List (Int×Int))(M a:az)(b:Nat->Prop)(X k d n:Nat)(e:Env)(m:Nat)(r:Env)(h':az):Prop:=
 ∃(j:Nat) (c:List (Int×Int)),m=P-j/\j<=P/\aG asv e r/\bC r 6 j/\BU M a b h' X k d n c []/\(∀r:Nat,r<j->pG c r=(2,0))/\(∀r:Nat,j<=r->c[r]?=i[r]?)/\∀m,(∀r:Nat,r<P->qQ (2,0) (pG m r))->qf i m->qf c m
def acP(w:BU M a b h X k d n i [])(A:cu a)(S:∀x∈i,x=(0,0)){P:Nat}(t:P<=n)(F:n<=1000000){r:Int}(F:eR a v (aC name P r B) E)(s:b v)(G:bU e 2 v)(I:bU e 5 X)(y:bC e 6 0)(N:∀H h' z,aG asv e H->BU M a b h' X k d n z []->(∀r:Nat,r<P->pG z r=(2,0))->(∀m,(∀r:Nat,r<P->qQ (2,0) (pG m r))->qf i m->qf z m)->C (.exit 0) H h'):aK FF (.loop mL) e h C:=by
 refine aK.loop (azt P i M a b X k d n e) ?_ (n:=P) ⟨0,i,Q,ab,aG.refl _ _,y,w,λr h=>ab,λ_ _=>rfl,λ_ _ h=>h⟩;rintro m H h'⟨j,z,rfl,L,D,V,c,f,y,O⟩;have l:=D.at G;have g:=D.at I;have q:=c.gz.get A F (λh=>h s);simp[aC] at q;unfold mL;by_cases I:j<P
 .have A:=ch ((j:Int)+1) ab ab;have o:j<n:=ab
  have u:z[j]?=Z (0,0):=by rw[y j (fq _)];have G:=w.fl;rw[jh ab];exact congrArg Z (S _ (Ik _))
  have⟨H,w,s,_,_⟩:=c.hX;have⟨t,p⟩:=c.h1;have G:j+1<=cz z:=by rw[c.fl];omega
  simp[l,g,V,q,s,I,o,p,G,A];have W:=c.aEX u (a:=2) (kd (kd Q));refine⟨P-(j+1),ab,j+1,z.set j (2,0),Q,I,?_,J,W,λr H=>?_,λr H=>?_,λm L t=>?_⟩
  .exact aq
  rw[Hw (by rw[c.fl];exact o)];split;rfl;exact f r ab;rw[fO,bM ab];exact y r ab;exact(O m L t).set (by rw[c.fl];exact o) (L j I)
 .have:j=P:=ab
  subst this;simp[l,V,q];exact N _ _ z (by
   repeat (refine aG.set ?_)
   exact D) c f O
end
structure PN(bs:List GB)(P n:Nat)(fx gs fy:List (Int×Int)):Prop where
 fl:cz fy=n
 fk:AG fy
 st:Uw bs P fx gs fy (iM bs fx gs (cz bs))
 ls:∀m hs,Uw bs P fx gs m hs->qf fy m
def ad5{c a:List (Int×Int)}{b:Nat}{x:GB}(d:bs[b]?=Z x)(f:jB a b=ck){t:Int}(o:x.to[j]?=Z t)(e:vF x.kind (cS c x.on) j=ck):((b:Int),t)∈iM bs c a (cz bs):=by unfold iM;refine ba.2 ⟨b,OB.2 (cY.mp d).1,?_⟩;unfold CH;rw[d];dsimp only;rw[bK f];exact ad4 o e
def acQ(r:cu h){x N G:SV}{f g:List (Int×Int)}{n P:Nat}(s:GN h x N G f g)(p:cz f=n)(L:cz g<1000000)(A:AG f){name:ByteArray}(z:qP h B bs)(S:St n bs)(u:P<=n)(U:n<=1000000):aY FF 117 [ix ⟨aC name P n B⟩,ix ⟨[x.v,N.v,G.v]⟩] h (λv h'=>ay aR h h'/\∃(H d l:SV) (w:List (Int×Int)),v=ix ⟨[H.v,d.v,l.v]⟩/\GN h' H d l w (iM bs f g (cz bs))/\(∀c,dt H=Z c\/dt d=Z c\/dt l=Z c->h.aw<=c)/\PN bs P n f g w):=by
 have a:roomy n=ck:=by simp[roomy];omega
 have T:roomy (n*8)=ck:=by simp[roomy];omega
 refine aY.of FC ?_;unfold wQ;have H:¬h.aw=h.aw+1:=ab
 have C:¬h.aw=h.aw+1+1:=ab
 have V:¬h.aw=h.aw+1+1+1:=ab
 have d:¬h.aw=h.aw+1+1+1+1:=ab
 have o:¬h.aw=h.aw+1+1+1+1+1:=ab
 have w:¬h.aw+1=h.aw+1+1:=ab
 have O:¬h.aw+1=h.aw+1+1+1:=ab
 have b:¬h.aw+1=h.aw+1+1+1+1:=ab
 have D:¬h.aw+1=h.aw+1+1+1+1+1:=ab
 have I:¬h.aw+1+1=h.aw+1+1+1:=ab
 have k:¬h.aw+1+1=h.aw+1+1+1+1:=ab
 have m:¬h.aw+1+1=h.aw+1+1+1+1+1:=ab
 have F:¬h.aw+1+1+1=h.aw+1+1+1+1:=ab
 have E:¬h.aw+1+1+1=h.aw+1+1+1+1+1:=ab
 have W:¬h.aw+1+1+1+1=h.aw+1+1+1+1+1:=ab
 simp[aC,a,T,H,C,V,d,o,w,O,b,D,I,k,m,F,E,W];have a:ky [aA ft 0] n=encI.flat (ae n 0):=DH encI 0 rfl n;rw[a];refine aK.cut (λa=>ay aR h a/\a.tr.get h.aw=Z (.bZ (aC name P n B) cd 0 0)/\a.tr.get (h.aw+1)=Z (.bZ [x.v,N.v,G.v] cd 0 0)/\a.tr.get (h.aw+1+1)=Z (.bZ [dB K 0 0,dB K 0 0,dB K 0 0] cd 0 0)/\a.tr.get (h.aw+1+1+1)=Z (.bZ (encI.flat (ae n 0)) cd 0 0)/\a.tr.get (h.aw+1+1+1+1)=Z (.bZ (encI.flat (ae n 0)) cd 0 0)/\di a (h.aw+1+1+1+1+1) [dB (Z ⟨h.aw+1+1+1,0,K⟩) n n,dB (Z ⟨h.aw+1+1+1+1,0,K⟩) n n,dB K 0 0]) ?_ ?_
 refine⟨(((((((ay.refl r).new _ _).new _ _).new _ _).tick.new _ _).new _ _).new _ _).put ⟨0,J⟩ (jZ ab),?_,?_,?_,?_,?_,_,by simp[aX];rfl⟩;simp[aC,H,C,V,d,o,w,O,b,D,I,k,m,F,E,W];simp[H,C,V,d,o,w,O,b,D,I,k,m,F,E,W];simp[H,C,V,d,o,w,O,b,D,I,k,m,F,E,W];simp[H,C,V,d,o,w,O,b,D,I,k,m,F,E,W];simp[H,C,V,d,o,w,O,b,D,I,k,m,F,E,W];rintro a⟨I,m,N,X,O,k,sX,d⟩;have F:=I.ok.wf _ _ d;have⟨F,b⟩:∃F:Nat->Prop,F=λc=>c=h.aw\/c=h.aw+1\/c=h.aw+1+1:=⟨_,Q⟩;have H:(ae n ((0:Int),(0:Int))).map (·.1)=ae n 0:=J
 have w:(ae n ((0:Int),(0:Int))).map (·.2)=ae n 0:=J
 have D:BU h a F a (h.aw+1+1+1+1+1) (h.aw+1+1+1) (h.aw+1+1+1+1) n (ae n (0,0)) []:=
  ⟨I,.refl I.ok,⟨cM,sX,by simpa [cM] using d,jZ ⟨Q,Q⟩,λc d=>(Dg Q d).elim⟩,⟨0,by rw[H];exact O⟩,⟨0,by rw[w];exact k⟩,J,λx k=>jZ (List.mem_replicate.1 k).2,ab,ab,by rw[b];omega,λc d=>by rw[b] at d;omega⟩
 have H:F h.aw:=by rw[b];exact jZ rfl
 have w:F (h.aw+1):=by rw[b];exact kd (jZ Q)
 have pR:F (h.aw+1+1):=by rw[b];exact kd (kd Q)
 refine acP D I.ok (λx k=>(List.mem_replicate.1 k).2) u U m H J J J ?_;intro U G U b w2 U u;have D:=b.at (t:=2) (v:=eU (Z ⟨h.aw,0,K⟩)) J;have T:=b.at (t:=3) (v:=eU (Z ⟨h.aw+1,0,K⟩)) J;have O:=b.at (t:=4) (v:=eU (Z ⟨h.aw+1+1,0,K⟩)) J;have F:=b.at (t:=5) (v:=eU (Z ⟨h.aw+1+1+1+1+1,0,K⟩)) J;simp;refine acO (P:=P) (R:=h.aw+1+1) r w2 I.ok s p L A z S m H N w (au D) (au T) (au O) (au F) J ?_;intro T H m T S b w;obtain⟨l,F,F,N,nG⟩:=b.hX;have r:=b.gz.get I.ok X (λh=>h pR);simp at F;simp[T,S,F,r];have⟨z,S⟩:=b.h1;have⟨T,X⟩:=b.h2;have I:=(ay.refl b.g.ok).put (S:=(· =h.aw+1+1)) (off:=0) (vs:=[dB (Z ⟨h.aw+1+1+1,0,K⟩) n n,dB (Z ⟨h.aw+1+1+1+1,0,K⟩) n n,l.v]) ⟨0,r⟩ (kd Q);simp at I;have O:=b.fl;have s:∀(F:Nat)(r:List Int)(t:Nat)(h':az),cz r=n->h'.tr.get F=Z (.bZ (encI.flat r) cd 0 t)->eM encI h' ⟨Z ⟨F,0,K⟩,n,n⟩ r:=λF r t h' p D=>⟨p.symm,kd ⟨F,0,t,[],Q,au p,aj D,jZ Q⟩⟩;have A:ZT bs f g (cz bs) m:=w.c;have p:∀r:Nat,r<P->qQ (2,0) (pG m r):=λr L=>by have:=w.up r;rwa [U r L] at this
 have r:Uw bs P f g m (iM bs f g (cz bs)):=⟨p,λg x k d=>by have⟨L,p⟩:=A g x (cY.mp k).1 k d;refine⟨λq A j x v a G H=>?_,λy P M=>?_,λj t f e=>ad5 k d f e⟩;have⟨i,k⟩:=iG A;exact L i q (cY.mp k).1 k j x v (cY.mp a).1 a G H;have⟨i,k⟩:=iG P;exact p i y (cY.mp k).1 k M⟩;refine⟨b.g.trans' I ai λc d e=>ab,⟨Z ⟨h.aw+1+1+1,0,K⟩,n,n⟩,⟨Z ⟨h.aw+1+1+1+1,0,K⟩,n,n⟩,l,J,m,⟨?_,?_,?_⟩,λc d=>?_,O,b.fk,r,λl k m=>w.ls l ⟨k,m⟩ (u l m.par λF=>jZ ?_)⟩;exact s _ _ z _ (au O) (I.get b.g.ok S ab);exact s _ _ T _ (au O) (I.get b.g.ok X ab);exact bm.arr (N.grow b.g.ok I (λg D e=>(nG g D).2.2.2 (by rw[e];exact pR)))
 .rcases d with e|e|e
  .have:h.aw+1+1+1=c:=by simpa [dt] using e
   omega
  .have:h.aw+1+1+1+1=c:=by simpa [dt] using e
   omega
  exact bm.dt N e
 unfold pG;rw[Qp];split<;>rfl
def Mv{c:Type}{p q:c->Bool}(h:∀x,p x=ck->q x=ck):∀l:List c,(l.filter p).Sublist (l.filter q)
 |[]=>.refl _
 |x::l=>by have c:=Mv h l;cases a:p x;rw[List.filter_cons_of_neg (au a)];cases o:q x;rw[List.filter_cons_of_neg (au o)];exact c;rw[List.filter_cons_of_pos o];exact c.cons x;rw[List.filter_cons_of_pos a,List.filter_cons_of_pos (h x a)];exact c.cons_cons x
section
variable{bs:List GB}{P n:Nat}{fx gs fy d:List (Int×Int)}
def ado(h:qf fx fy)(g:∀e∈gs,e∈d)(b:Nat):(CH bs fx gs b).Sublist (CH bs fy d b):=by unfold CH;rcases o:bs[b]? with _|x;exact .refl _;dsimp only;cases c:jB gs b;rw[bM J];exact List.nil_sublist _;rw[bK Q,bK (FR g c)];exact(Mv (λp a=>IL (h.of _) a) _).map _
def Qr(h:qf fx fy)(g:∀e∈gs,e∈d):∀k,(iM bs fx gs k).Sublist (iM bs fy d k)
 |0=>.refl _
 |k+1=>by rw[Ba,Ba];exact(Qr h g k).append (ado h g k)
def qf.tail{a b:Int×Int}{l m:List (Int×Int)}(h:qf (a::l) (b::m)):qQ a b/\qf l m:=by
 refine⟨by simpa [pG] using h 0,λd=>?_⟩;have e:∀(a:Int×Int)(l:List (Int×Int)),pG (a::l) ((d.toNat:Int)+1)=pG l d:=λa l=>by
  unfold pG;have:((d.toNat:Int)+1).toNat=d.toNat+1:=ab
  rw[this];simp
 have:=h ((d.toNat:Int)+1);rwa [e,e] at this
def qf.awj:∀ {fx fy:List (Int×Int)},AG fx->AG fy->cz fx=cz fy->qf fx fy->(fy.map zj).sum<=(fx.map zj).sum/\((fy.map zj).sum=(fx.map zj).sum->fx=fy)
 |[],[],_,_,_,_=>⟨fq _,λ_=>rfl⟩
 |a::l,b::m,o,w,C,h=>by have⟨x,D⟩:=h.tail;have⟨H,E⟩:=x.Yg (o a iY) (w b iY);have⟨I,F⟩:=D.awj (λx c=>o x (xV _ c)) (λx c=>w x (xV _ c)) (aj C);simp only[xg,O2];refine⟨ab,λe=>?_⟩;rw[E ab,F ab]
structure K1(bs:List GB)(P n:Nat)(fx gs:List (Int×Int)):Prop where
 fl:cz fx=n
 fk:AG fx
 nx:∀m hs,Uw bs P fx gs m hs->qf fx m
 sb:gs.Sublist (iM bs fx gs (cz bs))
 lw:∀fy hs,Uw bs P fy hs fy hs->qf fx fy/\∀e∈gs,e∈hs
def aai{e:Int×Int}(h:e∈iM bs fx gs (cz bs)):∃(b:Nat) (x:GB) (j:Nat) (t:Int),e=((b:Int),t)/\bs[b]?=Z x/\jB gs b=ck/\x.to[j]?=Z t/\vF x.kind (cS fx x.on) j=ck:=by unfold iM at h;have⟨b,_,h⟩:=ba.1 h;unfold CH at h;rcases a:bs[b]? with _|x;rw[a] at h;simp at h;rw[a] at h;dsimp only at h;split at h;rename_i d;unfold zY at h;obtain⟨⟨t,j⟩,c,rfl⟩:=kC.1 h;have⟨o,w⟩:=EL.1 c;exact⟨b,x,j,t,Q,a,d,List.mem_zipIdx_iff_getElem?.1 o,w⟩;simp at h
def K1.aw(a:K1 bs P n fx gs)(w:PN bs P n fx gs fy):qf fx fy/\K1 bs P n fy (iM bs fx gs (cz bs)):=by have b:=a.nx fy _ w.st;have kh:∀e∈gs,e∈iM bs fx gs (cz bs):=λe h=>a.sb.subset h;refine⟨b,w.fl,w.fk,λm o h=>w.ls m o (h.mono b kh),Qr b kh _,λm o h=>?_⟩;have⟨b,E⟩:=a.lw m o h;have D:=h.mono b E;refine⟨w.ls m o D,λe C=>?_⟩;obtain⟨b,x,j,t,rfl,H,c,F,C⟩:=aai C;exact(D.bZ b x H c).to j t F C
def UH(bs:List GB)(fx gs:List (Int×Int)):Nat:=(fx.map zj).sum+(2*cz bs-cz gs)
def K1.less(E:EB bs)(a:K1 bs P n fx gs)(w:PN bs P n fx gs fy)(h:¬(fx=fy/\gs=iM bs fx gs (cz bs))):UH bs fy (iM bs fx gs (cz bs))<UH bs fx gs:=by
 have b:=a.nx fy _ w.st;have⟨C,c⟩:=b.awj a.fk w.fk (a.fl.trans w.fl.symm);have D:=a.sb.length_le;have F:=Dv E fx gs (cz bs);unfold UH;by_cases e:cz gs=cz (iM bs fx gs (cz bs))
 have o:=a.sb.eq_of_length e;have:(fy.map zj).sum≠(fx.map zj).sum:=λa=>h ⟨c a,o⟩;omega
 omega
def K1.least(a:K1 bs P n fx gs)(w:PN bs P n fx gs fx)(h:gs=iM bs fx gs (cz bs)):uq bs P n fx gs:=by have b:=w.st;rw[<-h] at b;exact⟨a.fl,a.fk,b,λfy c _ k=>a.lw fy c k⟩
def K1.zero:K1 bs P n (ae n (0,0)) []:=by have z:∀m,qf (ae n (0,0)) m:=λm d=>jZ (by unfold pG;rw[Qp];split<;>rfl);exact⟨J,λx a=>jZ (List.mem_replicate.1 a).2,λm _ _=>z m,List.nil_sublist _,λm _ _=>⟨z m,J⟩⟩
end
section
variable{h h':az}{x N G m S P:SV}{r d s p:List (Int×Int)}{n:Nat}
def AlI(h:az)(P:Nat->Prop)(t k:Nat)(L:List Nat)(e:Env)(m:Nat)(a:Env)(h':az):Prop:=
 ∃j:Nat,m=k-j/\j<=k/\aG L e a/\bC a t j/\ay aR h h'/\∀i,i<j->P i
def AlL:List Nat:=[5,6]++(aU 49).map (· +14)
def Yy(M:cu h)(H:GN h x N G r d)(k':GN h m S P s p)(hl:cz r=n)(uA:cz s=n)(F:n<=1000000)(a:cz d<1000000):aY FF 118 [ix ⟨[x.v,N.v,G.v]⟩,ix ⟨[m.v,S.v,P.v]⟩] h (λu h'=>u=dC (decide (r=s/\d=p))/\ay aR h h'):=by
 have g:=H.G.len;have B:=k'.G.len;have hKl:x.l=n:=by have:=H.tk.len;simpa [hl] using this
 refine aY.of Eh ?_;unfold vg;have e1:¬h.aw=h.aw+1:=ab
 by_cases hg:cz d=cz p
 .have W:((cz d:Int) !=(cz p:Int))=cd:=by simp[hg]
  simp[e1,g,B,W];refine aK.cut (λL=>ay aR h L/\L.tr.get h.aw=Z (.bZ [x.v,N.v,G.v] cd 0 0)/\L.tr.get (h.aw+1)=Z (.bZ [m.v,S.v,P.v] cd 0 0)) ⟨((ay.refl M).new _ _).new _ _,by simp[e1,g],au B⟩ ?_;rintro L⟨q,X,f⟩;simp at X f;refine aK.loop (AlI L (λi=>d[i]?=p[i]?) 5 (cz d) AlL _) ?_ (n:=cz d) ⟨0,Q,ab,aG.refl _ _,J,.refl q.ok,λi h=>ab⟩;rintro m' e' T⟨j,rfl,hj,t,q5,c,H'⟩;have I:bU e' 2 h.aw:=t.at J;have O:bU e' 3 (h.aw+1):=t.at J;have E:=c.get q.ok X;have l:=c.get q.ok f;have A:=q.trans c;unfold rQ;by_cases D:j<cz d
  .have wj:=ch ((j:Int)+1) ab ab;have⟨a,w⟩:=aQ d j D;have⟨b,v⟩:=aQ p j;have⟨c1,_,_,_,a1,b1,_,_,z,_⟩:=(H.cm M A).G.el w;have⟨q,_,_,_,a2,b2,_,_,y,_⟩:=(k'.cm M A).G.el v;have V:=z 0 2 ag;have k:=y 0 2 ag;simp[-ax] at V k;rw[a1,g] at E;rw[a2,B,<-hg] at l;have oX:=c.ok.cg E;have oY:=c.ok.cg l;have o1:=c.ok.cg b1;have o2:=c.ok.cg b2;have⟨t,F⟩:=a;have⟨X,z⟩:=b;by_cases U:t=X/\F=z
   .obtain⟨rfl,rfl⟩:=U;simp[I,O,q5,E,l,D,V,k,oX,oY,o1,o2,-ax,aB E,aB l,aI,fV,cN,d_,wj];refine⟨cz d-(j+1),ab,j+1,Q,D,?_,J,c.trans (bk c.ok),λi hi=>?_⟩
    .exact aq
    by_cases y:i=j;subst y;rw[w,v];exact H' i ab
   .have y:(t==X&&F==z)=cd:=by cases L:t==X;rfl;cases T:F==z;rfl;exact absurd ⟨aj L,aj T⟩ U
    have f:¬(r=s/\d=p):=λ⟨_,e⟩=>U (by rw[e,v] at w;cases w;exact⟨Q,Q⟩);simp[I,O,q5,E,l,D,V,k,oX,oY,o1,o2,-ax,aB E,aB l,aI,fV,cN,d_,y];exact⟨λa b=>f ⟨a,b⟩,A.tick⟩
  .have:j=cz d:=ab
   subst this;have eg:d=p:=BT λi=>by by_cases hi:i<cz d;exact H' i hi;rw[xU ab,xU ab]
   simp[I,O,q5,E,g,-ax,aB E];refine aK.loop (AlI T (λi=>r[i]?=s[i]?) 6 n AlL e') ?_ (n:=n) ⟨0,Q,ab,?_,J,.refl c.ok,λi h=>ab⟩
   .rintro m' y h3⟨j,rfl,hj,T,U,L,H3⟩;have I:bU y 2 h.aw:=T.at I;have O:bU y 3 (h.aw+1):=T.at O;have C:=L.get c.ok E;have T:=L.get c.ok l;have o:=A.trans L;unfold rN;by_cases D:j<n
    .have wj:=ch ((j:Int)+1) ab ab;have⟨a,w⟩:=aQ r j;have⟨b,v⟩:=aQ s j;have⟨b1,b2,a1,a2,l1,l2,_,_,c⟩:=H.at M w;obtain⟨A,A,a3,a4,l,l4,_,_,A⟩:=k'.at M v;have⟨V,k⟩:=c h3 o;have⟨c,H⟩:=A h3 o;rw[a1,a2,l1,l2,hl] at C;rw[a3,a4,l,l4,uA] at T;have⟨t,F⟩:=a;have⟨X,z⟩:=b;by_cases c1:t=X
     .subst c1;by_cases q:F=z
      .subst q;simp[I,O,U,C,T,D,V,k,c,H,-ax,aB C,aB T,aI,wj];refine⟨n-(j+1),ab,j+1,Q,D,?_,J,L.tick,λi hi=>?_⟩
       .exact aq
       by_cases y:i=j;subst y;rw[w,v];exact H3 i ab
      .have A:(F !=z)=ck:=aj q
       have f:¬(r=s/\d=p):=λ⟨e,_⟩=>q (by rw[e,v] at w;cases w;rfl);simp[I,O,U,C,T,D,V,k,c,H,-ax,aB C,aB T,aI,A];exact⟨λa b=>f ⟨a,b⟩,o.tick⟩
     .have z:(t !=X)=ck:=aj c1
      have f:¬(r=s/\d=p):=λ⟨e,_⟩=>c1 (by rw[e,v] at w;cases w;rfl);simp[I,O,U,C,T,D,V,k,c,H,-ax,aB C,aB T,aI,z];exact⟨λa b=>f ⟨a,b⟩,o.tick⟩
    .have:j=n:=ab
     subst this;have H:r=s:=BT λi=>by by_cases hi:i<cz r;exact H3 i ab;rw[xU ab,xU ab]
     simp[I,U,C,hKl,-ax,aB C];exact⟨⟨H,eg⟩,o⟩
   .repeat (refine aG.set ?_)
    exact aG.refl _ _
 .have f:¬(r=s/\d=p):=λ⟨_,e⟩=>hg (by rw[e]);have W:((cz d:Int) !=(cz p:Int))=ck:=by simp;omega
  simp[e1,g,B,W];exact⟨λa b=>f ⟨a,b⟩,((ay.refl M).new _ _).new _ _⟩
end
def FiI(M:az)(bs:List GB)(P n:Nat)(name:ByteArray)(B:SV)(v R d:Nat)(m:Nat)(c:Env)(h':az):Prop:=
 ∃(e N G:SV) (b a:List (Int×Int)),m=UH bs b a/\bU c 1 v/\bU c 2 R/\bU c 3 d/\ay aR M h'/\(di h' v (aC name P n B))/\(di h' R [dB K 0 0,dB K 0 0,dB K 0 0])/\(di h' d [e.v,N.v,G.v])/\GN h' e N G b a/\(∀c,dt e=Z c\/dt N=Z c\/dt G=Z c->c≠d/\c≠R)/\K1 bs P n b a
def adg(D:cu h){n P:Nat}{name:ByteArray}(q:qP h B bs)(S:St n bs)(l:P<=n)(z:n<=1000000):aY FF 57 [ix ⟨aC name P n B⟩] h (λv h'=>ay aR h h'/\∃(k N G:SV) (b a:List (Int×Int)),v=ix ⟨[k.v,N.v,G.v]⟩/\GN h' k N G b a/\uq bs P n b a):=by
 have E:=S.E;have T:roomy n=ck:=by simp[roomy];omega
 have V:roomy (n*8)=ck:=by simp[roomy];omega
 refine aY.of FB ?_;unfold wP;have d:¬h.aw=h.aw+1:=ab
 have i:¬h.aw=h.aw+1+1:=ab
 have I:¬h.aw=h.aw+1+1+1:=ab
 have r:¬h.aw=h.aw+1+1+1+1:=ab
 have y:¬h.aw+1=h.aw+1+1:=ab
 have m:¬h.aw+1=h.aw+1+1+1:=ab
 have w:¬h.aw+1=h.aw+1+1+1+1:=ab
 have F:¬h.aw+1+1=h.aw+1+1+1:=ab
 have s:¬h.aw+1+1=h.aw+1+1+1+1:=ab
 have p:¬h.aw+1+1+1=h.aw+1+1+1+1:=ab
 have c:ky [aA ft 0] n=encI.flat (ae n 0):=DH encI 0 rfl n;simp[aC,T,V,d,i,I,r,y,m,w,F,s,p,c];refine aK.cut (λc=>ay aR h c/\c.tr.get h.aw=Z (.bZ (aC name P n B) cd 0 0)/\c.tr.get (h.aw+1)=Z (.bZ [dB K 0 0,dB K 0 0,dB K 0 0] cd 0 0)/\c.tr.get (h.aw+1+1)=Z (.bZ (encI.flat (ae n 0)) cd 0 0)/\c.tr.get (h.aw+1+1+1)=Z (.bZ (encI.flat (ae n 0)) cd 0 0)/\di c (h.aw+1+1+1+1) [dB (Z ⟨h.aw+1+1,0,K⟩) n n,dB (Z ⟨h.aw+1+1+1,0,K⟩) n n,dB K 0 0]) ?_ ?_;refine⟨((((((ay.refl D).new _ _).new _ _).tick.new _ _).new _ _).new _ _).put ⟨0,J⟩ (jZ ab),?_,?_,?_,?_,_,by simp[aX];rfl⟩;simp[aC,d,i,I,r];simp[y,m,w];simp[F,s];simp[p];rintro c⟨w,r,I,m,y,sX,p⟩;have F:=w.ok.wf _ _ p;have i:∀(d:Nat)(F:List Int)(t:Nat)(h':az),cz F=n->h'.tr.get d=Z (.bZ (encI.flat F) cd 0 t)->eM encI h' ⟨Z ⟨d,0,K⟩,n,n⟩ F:=λd F t h' F s=>⟨F.symm,kd ⟨d,0,t,[],Q,au F,aj s,jZ Q⟩⟩;have s:GN c ⟨Z ⟨h.aw+1+1,0,K⟩,n,n⟩ ⟨Z ⟨h.aw+1+1+1,0,K⟩,n,n⟩ cM (ae n (0,0)) []:=
  ⟨i _ _ 0 _ J (aj m),i _ _ 0 _ J (aj y),.nil _ _⟩
 have y:∀c,dt (⟨Z ⟨h.aw+1+1,0,K⟩,n,n⟩:SV)=Z c\/dt (⟨Z ⟨h.aw+1+1+1,0,K⟩,n,n⟩:SV)=Z c\/dt cM=Z c->c≠h.aw+1+1+1+1/\c≠h.aw+1:=λc i=>by
  rcases i with e|e|e
  .have:h.aw+1+1=c:=by simpa [dt] using e
   omega
  .have:h.aw+1+1+1=c:=by simpa [dt] using e
   omega
  cases e
 refine aK.loop (FiI h bs P n name B h.aw (h.aw+1) (h.aw+1+1+1+1)) ?_ (n:=UH bs (ae n (0,0)) []) ⟨_,_,cM,ae n (0,0),[],Q,J,J,J,w,⟨0,r⟩,⟨0,I⟩,⟨sX,by simpa [cM] using p⟩,s,y,.zero⟩;rintro m y i⟨k,N,G,b,a,rfl,y,r,W,p,⟨T,w⟩,⟨s,m⟩,⟨V,I⟩,H,U,A⟩;have C:=p.ok;have O:cz a<1000000:=by have:=A.sb.length_le;have:=Dv E b a (cz bs);have:=E.n50;omega
 unfold ub;have d:=w;have F:=I;simp[aC] at d F;simp[y,W,d,F,-ax,aB d,aB F];refine bh.call (V:=λv h'=>ay aR i h'/\∃(f g d:SV) (j:List (Int×Int)),v=ix ⟨[f.v,g.v,d.v]⟩/\GN h' f g d j (iM bs b a (cz bs))/\(∀c,dt f=Z c\/dt g=Z c\/dt d=Z c->i.aw<=c)/\PN bs P n b a j) (by simpa [aC] using acQ C (name:=name) H A.fl O A.fk (q.mono D p) S l z) ?_;rintro _ D⟨i,f,g,d,j,rfl,S,q,l⟩;have L:=i.get C w;have M:=i.get C m;have x:=i.get C F;have F:=C.wf _ _ I;have F:=C.wf _ _ m;have m:=i.aw;have m:=C.wf _ _ w;have⟨w,X⟩:=A.aw l;have w:¬h.aw+1+1+1+1=D.aw:=ab
 have m:¬h.aw+1=D.aw:=ab
 have m:=i.ok.cg x;simp[W,x,w,m,-ax,aB x,cn,bj,aH];have⟨F,m,w⟩:∃F,F=put (aJ D [dB K 0 0,dB K 0 0,dB K 0 0] 0) D.aw 0 [dB K 0 0,dB K 0 0,dB K 0 0] [dB f.a f.l f.c,dB g.a g.l g.c,dB d.a d.l d.c] 0/\ay aR D F:=⟨_,Q,(ay.refl i.ok).var _ _⟩;have I:di F D.aw [dB f.a f.l f.c,dB g.a g.l g.c,dB d.a d.l d.c]:=⟨D.clock,by rw[m];simp[aX]⟩;rw[<-m];clear m;have⟨D,I⟩:=I;refine bh.call (V:=λu h'=>u=dC (decide (b=j/\a=iM bs b a (cz bs)))/\ay aR F h') (aj (Yy w.ok (H.cm C (i.trans w)) (S.cm i.ok w) A.fl l.fl z O)) ?_;rintro _ D⟨rfl,o⟩;have O:=(w.trans o).get i.ok x;have m:=(w.trans o).get i.ok M;have M:=(w.trans o).get i.ok L;have z:=o.get w.ok I;have F:=(i.trans w).trans o;have I:=p.trans F;have L:=H.cm C F;have p:=S.cm i.ok (w.trans o);have F:=w.aw;by_cases c:b=j/\a=iM bs b a (cz bs)
 .have w:decide (b=j/\a=iM bs b a (cz bs))=ck:=decide_eq_true c;rw[w];simp[r,W,O,m];have F:=(ay.refl o.ok).put (S:=(· =h.aw+1)) (off:=0) (vs:=[dB k.a k.l k.c,dB N.a N.l N.c,dB G.a G.l G.c]) ⟨s,m⟩ (kd Q);have i:PN bs P n b a b:=by have:=l;rwa [<-c.1] at this
  exact⟨I.trans' F ai λx H e=>ab,k,N,G,J,b,a,L.go o.ok F λx H e=>(U x H).2 e,A.least i c.2⟩
 have w:decide (b=j/\a=iM bs b a (cz bs))=cd:=decide_eq_false c;rw[w];simp[W,O,z];have F:=(ay.refl o.ok).put (S:=(· =h.aw+1+1+1+1)) (off:=0) (vs:=[dB f.a f.l f.c,dB g.a g.l g.c,dB d.a d.l d.c]) ⟨V,O⟩ (kd Q);refine⟨_,A.less E l c,f,g,d,j,iM bs b a (cz bs),Q,au y,au r,au W,I.trans' F ai λx H e=>ab,⟨T,F.get o.ok M ab⟩,⟨s,F.get o.ok m ab⟩,⟨D.clock,by simp[aX]⟩,p.go o.ok F λx H e=>av (q x H),λx H=>av (q x H),X⟩
section
variable{Kc N G:SV}{fx gs:List (Int×Int)}{n Kb:Nat}
structure Sz(h:az)(y:YB)(Kb n:Nat)(Kc N G:SV)(fx gs:List (Int×Int)):Prop where
 k:GN h Kc N G fx gs
 nk:∀c,dt Kc=Z c\/dt N=Z c\/dt G=Z c->¬gq y c
 hK:di h Kb [Kc.v,N.v,G.v]
 nK:¬gq y Kb
 fl:cz fx=n
def Sz.lt{h:az}{y:YB}(k:Sz h y Kb n Kc N G fx gs)(a:cu h){c:Nat}(o:dt Kc=Z c\/dt N=Z c\/dt G=Z c):c<h.aw:=by rcases o with e|e|e;exact k.k.tk.lt a e;exact k.k.N.lt a e;exact k.k.G.lt a e
def Sz.go{b:Nat->Prop}{h h':az}{y:YB}(k:Sz h y Kb n Kc N G fx gs)(a:cu h)(g:ay b h h')(w:∀c,b c->h.aw<=c\/(c≠Kb/\∀b,dt Kc=Z b\/dt N=Z b\/dt G=Z b->c≠b)):Sz h' y Kb n Kc N G fx gs:=by have⟨s,o⟩:=k.hK;have D:=a.wf _ _ o;exact⟨k.k.go a g λc C e=>(w c e).elim (λh=>av (k.lt a C)) λh=>h.2 c C Q,k.nk,⟨s,g.get a o λe=>(w _ e).elim ab λh=>h.1 Q⟩,k.nK,k.fl⟩
def Sz.kz{y z:YB}(k:Sz h y Kb n Kc N G fx gs)(a:cu h)(T:eD h h' y z):Sz h' z Kb n Kc N G fx gs:=by have⟨s,w⟩:=k.hK;have C:=a.wf _ _ w;exact⟨k.k.go a T.g λc o e=>k.nk c o e,λc o=>T.no (k.lt a o) (k.nk c o),⟨s,T.g.get a w k.nK⟩,T.no C k.nK,k.fl⟩
def asB:List Nat:=[15]++(aU 18).map (· +110)
def azQ(h:az)(y:YB)(fx:List (Int×Int))(j0:Nat)(x:GI)(A:SV)(row:List (Bool×Int))(e:Env)(b:Nat)(a:Env)(h':az):Prop:=
 ∃j:Nat,b=cz row-j/\j<=cz row/\aG asB e a/\bC a 15 j/\eD h h' y (yn y j0 x A ((row.take j).map (fw fx)++row.drop j))
def aey(O:cu h)(w:BZ h y)(S:kF False y.loc)(f:Sz h y Kb n Kc N G fx gs){x:GI}(d:y.ls[j0]?=Z ({x with args:=row},A))(hr:∀v∈row,rS n v)(b:cz row<=1048576){H:List Value}(t:eR h X H sX)(z:¬gq y X)(q:(H.drop 7).take 1=[A.v])(F:bU e 5 Kb)(g:bU e 14 X)(B:bC e 15 0)(L:∀k h',aG asB e k->eD h h' y (yn y j0 x A (row.map (fw fx)))->C (.exit 8) k h'):aK FF (.loop iA) e h C:=by
 have D:=(cY.mp d).1;have b:yn y j0 x A ((row.take 0).map (fw fx)++row.drop 0)=y:=by unfold yn;rw[show y.ls.set j0 ({x with args:=(row.take 0).map (fw fx)++row.drop 0},A)=y.ls from Bo d]
 refine aK.loop (azQ h y fx j0 x A row e) ?_ (n:=cz row) ⟨0,Q,ab,aG.refl _ _,B,by rw[b];exact .refl w O⟩;rintro s k h'⟨j,rfl,b,M,P,T⟩;have c:=T.g.ok;have s:=f.kz O T;have U:=M.at F;have k:=M.at g;have E:=T.g.get O t z;have g:=O.wf _ _ t;have m:7+1<=cz H:=by have:=congrArg bW q;simp at this;omega
 unfold iA;by_cases z:j<cz row
 .have B:=ch ((j:Int)+1) ab ab;have⟨v,g⟩:=aQ row j z;have⟨a,b⟩:∃a,a=(row.take j).map (fw fx)++row.drop j:=⟨_,Q⟩;have I:cz ((row.take j).map (fw fx))=j:=by simp;omega
  have V:a[j]?=Z v:=by rw[b,fC I,g]
  have r:cz a=cz row:=by rw[b];simp;omega
  rw[<-b] at T;obtain⟨p,F,o,O,O,F,i,t,i,hf,aaF⟩:=T.amq S (j0:=j0) (x:= {x with args:=a}) (A:=A) (by simp[yn,D]) V;rw[r] at F;have D:(H.drop 7).take 1=[dB (Z ⟨p,0,K⟩) (cz row) A.c]:=by rw[q];simp[O,F]
  have V:cy h' X 7 1=Z [dB (Z ⟨p,0,K⟩) (cz row) A.c]:=by rw[dx E m,D]
  have l:=c.cg E;have r:=c.st _ _ _ _ _ E;have H:=l.lt;have O:¬X=h'.aw:=ab
  have⟨W,O⟩:=s.hK;have H:=c.cg O;have p:=c.st _ _ _ _ _ O;have S:=O;simp at S;simp[U,k,P,z,i,V,S,l,H,-ax,aB S,aI];refine bS.cut (λp=>ay aR h' p) (bk c) ?_;intro p D;have i:=s.k.cm c D;have S:=D.get c E;refine bS.call (V:=λu h'=>u=ix ⟨[dC (fw fx v).1,fc ft (fw fx v).2]⟩/\ay aR p h') (aj (CX D.ok i f.fl (hr v (cO g)))) ?_;rintro _ s⟨rfl,O⟩;have p:=O.get D.ok S;have H:=(D.trans O).get c t;have⟨f,U⟩:=aaF (fw fx v) s (D.trans O);have c:sX<=h'.clock+1:=ab
  have⟨u,s⟩:∃u,u=fw fx v:=⟨_,Q⟩;rw[<-s] at U f⊢;simp[k,p,r,c,z,H,hf,P,B];refine⟨cz row-(j+1),ab,j+1,Q,z,?_,J,?_⟩
  .exact aq
  .have O:({ yn y j0 x A a with ls:=(yn y j0 x A a).ls.set j0 ({x with args:=a.set j u},A) } :YB)=yn y j0 x A ((row.take (j+1)).map (fw fx)++row.drop (j+1)):=by unfold yn;dsimp only;rw[xh,b,set_drop I g,kh,g,aL,s];rfl
   rw[O] at U;exact U
 .have:j=cz row:=ab
  subst this;rw[mO,bE,Bx] at T;have F:=(w.ls _ (cO d)).len;have V:cy h' X 7 1=Z [dB A.a (cz row) A.c]:=by rw[dx E m,q];simp at F;simp[F]
  simp[k,P,V,-ax];exact L _ _ (by
   repeat (refine aG.set ?_)
   exact M) T
end
section
variable{r N G:SV}{d p:List (Int×Int)}{n m:Nat}
def asC:List Nat:=[11]++(aU 31).map (· +50)
def azR(h:az)(y:YB)(d:List (Int×Int))(j0:Nat)(c:Int)(A:SV)(row:List (Bool×Int))(e:Env)(b:Nat)(a:Env)(h':az):Prop:=
 ∃j:Nat,b=cz row-j/\j<=cz row/\aG asC e a/\bC a 11 j/\eD h h' y (gW y j0 c A ((row.take j).map (fw d)++row.drop j))
def aiz(g:cu h)(w:BZ h y)(b:kF True y.loc)(I:Sz h y m n r N G d p){a:Int}(s:y.ps[j0]?=Z (⟨a,row⟩,A))(hr:∀v∈row,rS n v)(z:cz row<=1048576)(t:eR h X [y.P.v,L.v,fc ft kind,dC on.1,fc ft on.2,T.v] sX)(z:¬gq y X)(U:bU e 5 m)(P:bU e 8 X)(S:bC e 10 j0)(B:bC e 11 0)(C':∀k h',aG asC e k->eD h h' y (gW y j0 a A (row.map (fw d)))->C (.exit 4) k h'):aK FF (.loop ka) e h C:=by
 have i:=(cY.mp s).1;have q:gW y j0 a A ((row.take 0).map (fw d)++row.drop 0)=y:=by unfold gW;rw[show y.ps.set j0 (⟨a,(row.take 0).map (fw d)++row.drop 0⟩,A)=y.ps from Bo s]
 refine aK.loop (azR h y d j0 a A row e) ?_ (n:=cz row) ⟨0,Q,ab,aG.refl _ _,B,by rw[q];exact .refl w g⟩;rintro F k h'⟨j,rfl,D,M,f,F⟩;have c:=F.g.ok;have V:=I.kz g F;have q5:=M.at U;have k:=M.at P;have E:=F.g.get g t z;have U:=g.wf _ _ t;have x:=M.at S;have q:(gW y j0 a A ((row.take j).map (fw d)++row.drop j)).ps[j0]?=Z (⟨a,(row.take j).map (fw d)++row.drop j⟩,A):=by simp[gW,i]
 have⟨O,l,S,sP,H,B,z,_,t,_⟩:=F.w.P.el q;have g:y.P.a=Z ⟨O,0,K⟩:=H;have Q1:j0<y.P.l:=z;clear H z;have O:=t 1 1 ag;simp[-ax] at O;simp at E;rw[g] at E;have U:=c.cg B;unfold ka;by_cases P:j<cz row
 .have wj:=ch ((j:Int)+1) ab ab;have⟨v,z⟩:=aQ row j P;have⟨D,q⟩:∃D,D=(row.take j).map (fw d)++row.drop j:=⟨_,Q⟩;have t:cz ((row.take j).map (fw d))=j:=by simp;omega
  have H:D[j]?=Z v:=by rw[q,fC t,z]
  have S:cz D=cz row:=by rw[q];simp;omega
  rw[<-q] at F;obtain⟨g,l,o,l,l,g,ob,hb,rd,hf,aaF⟩:=F.rowAt b (j0:=j0) (d:=a) (ar:=D) (A:=A) (by simp[gW,i]) H;rw[S] at g;rw[l,g] at O;have l:=c.cg E;have EO:=c.st _ _ _ _ _ E;have H:=l.lt;have S:¬X=h'.aw:=ab
  have⟨W,H⟩:=V.hK;have i:=c.cg H;have b:=c.st _ _ _ _ _ H;have S:=H;simp at S;simp[q5,k,x,f,P,Q1,rd,O,E,S,l,i,U,-ax,aB S,aB E,aI];refine bS.cut (λb=>ay aR h' b) (bk c) ?_;intro b H;have i:=V.k.cm c H;have S:=H.get c E;refine bS.call (V:=λu h'=>u=ix ⟨[dC (fw d v).1,fc ft (fw d v).2]⟩/\ay aR b h') (aj (CX H.ok i I.fl (hr v (cO z)))) ?_;rintro _ i⟨rfl,U⟩;have dK:=U.get H.ok S;have l:=(H.trans U).get c hb;have⟨I,S⟩:=aaF (fw d v) i (H.trans U);have V:sX<=h'.clock+1:=ab
  have⟨u,b⟩:∃u,u=fw d v:=⟨_,Q⟩;rw[<-b] at S I⊢;have i:=(H.trans U).get c B;have I:=c.st _ _ _ _ _ B;have B:sP<=h'.clock+1:=ab
  simp[k,dK,i,I,B,EO,V,P,l,hf,f,wj];refine⟨cz row-(j+1),ab,j+1,Q,P,?_,J,?_⟩
  .exact aq
  .have I:({gW y j0 a A D with ps:=(gW y j0 a A D).ps.set j0 (⟨a,D.set j u⟩,A)} :YB)=gW y j0 a A ((row.take (j+1)).map (fw d)++row.drop (j+1)):=by unfold gW;dsimp only;rw[xh,q,set_drop t z,kh,z,aL,b];rfl
   rw[I] at S;exact S
 .have:j=cz row:=ab
  subst this;rw[mO,bE,Bx] at F;have g:=(w.ps _ (cO s)).len;simp at g;rw[g] at O;simp[k,x,f,E,Q1,O,-ax,aB E];exact C' _ _ (by
   repeat (refine aG.set ?_)
   exact M) F
end
section
variable{p N G:SV}{fx m:List (Int×Int)}{n d:Nat}
def AF(fx:List (Int×Int))(q:GP×SV):GP×SV:=if qF fx q.1.dst then q else Jm fx q
def As(y:YB)(fx:List (Int×Int))(j:Nat):YB:= {y with ps:=(y.ps.take j).map (AF fx)++y.ps.drop j}
def Cc(fx:List (Int×Int))(ps:List (GP×SV)):List (GP×SV):=(ps.filter λq=> !qF fx q.1.dst).map (Jm fx)
def aiv{q:GP×SV}(h:ps[j]?=Z q):Cc fx (ps.take (j+1))=Cc fx (ps.take j)++(if qF fx q.1.dst then [] else [Jm fx q]):=by
 have e:ps.take (j+1)=ps.take j++[q]:=by rw[kh,h];rfl
 unfold Cc;rw[e,dQ,aL];congr 1;cases c:qF fx q.1.dst<;>simp[c]
def WR(y:YB)(j:Nat)(l:Lo):(As y fx j).loc l=y.loc l:=by
 cases l with
 |R k=>
  have e:((y.ps.take j).map (AF fx)++y.ps.drop j).map (·.2)=y.ps.map (·.2):=by rw[aL,bL,show((λq:GP×SV=>q.2)∘AF fx)=λq=>q.2 from funext λq=>by unfold AF;simp only[Function.comp];split<;>rfl,<-aL,List.take_append_drop]
  have b:∀a:List (GP×SV),((a[k]?).bind λx=>dt x.2)=(((a.map (·.2))[k]?).bind dt):=λa=>by rw[gM];cases a[k]? <;>rfl
  show((((y.ps.take j).map (AF fx)++y.ps.drop j)[k]?).bind λx=>dt x.2)=((y.ps[k]?).bind λx=>dt x.2);rw[b,b,e]
 |_=>rfl
def asD:List Nat:=[9,10,11]++(aU 56).map (· +32)
def azN(h:az)(y:YB)(fx:List (Int×Int))(e:Env)(b:Nat)(a:Env)(h':az):Prop:=
 ∃(j:Nat) (W:SV),b=cz y.ps-j/\j<=cz y.ps/\aG asD e a/\bC a 10 j/\bY a 9=W.v/\bm jf h.aw h' W.v (Cc fx (y.ps.take j))/\eD h h' y (As y fx j)
def aeA(O:cu h)(s:BZ h y)(I':kF True y.loc)(F:Sz h y d n p N G fx m)(a:cz y.ps<=100000)(a:∀q∈y.ps,(0<=q.1.dst/\q.1.dst<n)/\(∀v∈q.1.row,rS n v)/\cz q.1.row<=1048576)(c:eR h X [y.P.v,L.v,fc ft kind,dC on.1,fc ft on.2,T.v] sX)(nX:¬gq y X)(k:bU e 5 d)(D:bU e 8 X)(B:bY e 9=cM.v)(b:bC e 10 0)(C':∀g h' r,aG asD e g->bY g 9=SV.v r->bm jf h.aw h' (SV.v r) (Cc fx y.ps)->eD h h' y (As y fx (cz y.ps))->C (.exit 2) g h'):aK FF (.loop kc) e h C:=by
 have U:As y fx 0=y:=Q;have t:=s.P.len;refine aK.loop (azN h y fx e) ?_ (n:=cz y.ps) ⟨0,cM,Q,ab,aG.refl _ _,b,B,jZ ⟨Q,Q⟩,by rw[U];exact .refl s O⟩;rintro U g h'⟨j,r,rfl,g,U,g,B,b,E⟩;have o:=E.g.ok;have I:=F.kz O E;have w:=U.at k;have k:=U.at D;have D:=E.g.get O c nX;have x:=E.g.aw;have lX:=O.wf _ _ c;have ol:∀i c,gq (As y fx i) c->c<h.aw:=λi c ⟨l,e⟩=>s.lt O (by rw[<-WR (fx:=fx) y i l];exact e);simp at D;unfold kc;by_cases s:j<cz y.ps
 .have wj:=ch ((j:Int)+1) ab ab;have⟨⟨⟨x,row⟩,A⟩,H⟩:=aQ y.ps j s;have⟨P,hv,zI⟩:=a _ (cO H);dsimp only at P hv zI;obtain⟨a,rfl⟩:∃u:Nat,x=u:=⟨x.toNat,ab⟩;have KI:a<n:=ab
  have qW:cz ((y.ps.take j).map (AF fx))=j:=by simp;omega
  have x:(As y fx j).ps[j]?=Z (⟨(a:Int),row⟩,A):=by show((y.ps.take j).map (AF fx)++y.ps.drop j)[j]?=_;rw[fC qW,H]
  obtain⟨P,f,f,f,f,zk,M,_,S,_⟩:=E.w.P.el x;have jk:y.P.a=Z ⟨P,0,K⟩:=f;have P:j<y.P.l:=M;clear f M;have M:=S 0 1 ag;simp[-ax] at M;rw[jk] at D;have oP:=o.cg zk;have⟨W,f⟩:=I.hK;have oK:=o.cg f;have V:=f;have Nz:=o.cg D;have⟨S,f⟩:=aQ fx a (by rw[F.fl];exact KI);have⟨b1,b2,a1,a2,l1,l2,_,_,rdK⟩:=I.k.at o f;have⟨r1,_⟩:=rdK h' (.refl o);simp at V;rw[a1,a2,l1,l2,F.fl] at V;have I:qF fx (a:Int)=(S.1==1):=by simp[qF,pG,f]
  have f:=aiv (fx:=fx) H;simp only[I] at f;have eT:∀z,z=AF fx (⟨(a:Int),row⟩,A)->(As y fx (j+1))= {As y fx j with ps:=(As y fx j).ps.set j z} :=λz hz=>by unfold As;dsimp only;rw[set_drop qW H,kh,H,aL,hz];rfl
  have⟨H,x2⟩:=S;by_cases c:H=1
  .subst c;have S:As y fx (j+1)=As y fx j:=by rw[eT (⟨(a:Int),row⟩,A) (by unfold AF;rw[bK (by rw[I];rfl)])];rw[show(As y fx j).ps.set j (⟨(a:Int),row⟩,A)=(As y fx j).ps from Bo x]
   simp at f;simp[w,k,g,D,V,s,P,t,KI,M,r1,Nz,oK,oP,-ax,aB D,aB V,aI,wj];refine⟨cz y.ps-(j+1),ab,j+1,r,Q,s,?_,J,au B,by rw[f];exact b.grow o (bk o) ai,by rw[S];exact E.cm (bk o)⟩
   exact aq
  .have S:(H==1)=cd:=aj c
   simp[S] at f;simp[w,k,g,D,V,s,P,t,KI,M,r1,Nz,oK,oP,-ax,aB D,aB V,aI,c,S];have c:=bk o;have T2:=E.cm c;have M:=F.kz O T2;have dy:=c.get o D;have iX:=b.grow o c ai;have O:(tick h').aw=h'.aw:=Q;generalize tick h'=h2 at*;have nX2:¬gq (As y fx j) X:=E.no lX nX;refine aiz c.ok T2.w (T2.i True I') M x hv zI (L:=L) (T:=T) (kind:=kind) (on:=on) (sX:=sX) (X:=X) (by show h2.tr.get X=Z (.bZ [y.P.v,_,_,_,_,_] cd 0 sX);simpa [jk,t] using dy) nX2 (au w) (au k) (au g) J ?_;intro M M O H;have F:gW (As y fx j) j a A (row.map (fw fx))=As y fx (j+1):=(eT (⟨(a:Int),row.map (fw fx)⟩,A) (by unfold AF;rw[bM (by rw[I];simp[S])];rfl)).symm;rw[F] at H;have T4:=T2.trans H;have p5:=O.at (t:=5) (ak w);have p8:=O.at (t:=8) (ak k);have p9:=O.at (t:=9) (ak B);have S:=O.at (t:=10) (ak g);have I:=H.g.get c.ok dy nX2;have fU:=iX.grow c.ok H.g (λw c e=>by have:=iX.of c;have:=ol j w e;omega);have hq3:(As y fx (j+1)).ps[j]?=Z (⟨(a:Int),row.map (fw fx)⟩,A):=by rw[<-F];simp[gW,(cY.mp x).1]
   have⟨x,_,_,_,F,at7,hPi3,_,aEz,_⟩:=H.w.P.el hq3;have F:y.P.a=Z ⟨x,0,K⟩:=F;rw[jk] at F;cases F;have F:=aEz 0 2 ag;simp[-ax] at F;simp[p5,p8,p9,S,I,P,F,-ax,aB I];have I:bp jf (aJ M (jf.enc (Jm fx (⟨(a:Int),row⟩,A))) 0) (dB (Z ⟨M.aw,0,K⟩) 1 1) [Jm fx (⟨(a:Int),row⟩,A)]:=dq (bX _ _ _);have P:=aO H.g.ok (jf.enc (Jm fx (⟨(a:Int),row⟩,A))) 0;have a:=fU.grow H.g.ok P ai;have M:=H.g.aw;have H:cz (Cc fx (y.ps.take j))<=cz y.ps:=by unfold Cc;rw[AZ];refine qN (IW _ _) ?_;simp;omega
   obtain⟨H,H,F,H,M,x⟩:=fg (bytes:=32) P.ok (z:=[fc ft 0,dB K 0 0]) rfl a I ab ag (by simp;omega);obtain⟨a,rfl⟩:=bm.E5 H;refine dh (by simpa [Jm,Qy] using F) ?_;have I:=(T4.cm P).go M (λw c=>⟨b.of c,λh=>by have:=b.of c;have:=ol (j+1) w h;omega⟩);simp[S,wj];refine⟨cz y.ps-(j+1),ab,j+1,a,Q,s,?_,J,J,by rw[f];simpa using H,I⟩;refine aG.set (aG.set (aG.set ?_))
   repeat (refine aG.set ?_)
   refine aG.trans ?_ (O.cU)
   exact aq
 .have:j=cz y.ps:=ab
  subst this;rw[mO] at b;simp[k,g,D,t,-ax,aB D];exact C' _ _ r (by
   repeat (refine aG.set ?_)
   exact U) (au B) b E
end
set_option maxRecDepth 100000
def RsO:List Nat:=(aU 18).map (· +128)
section
variable{m N G:SV}{fx r:List (Int×Int)}{n p:Nat}
def aeY(D:cu h)(k:GN h m N G fx r)(S:cz fx=n)(O:eR h p [m.v,N.v,G.v] W){y:GI}(d:y.dst<n)(t:eR h X [fc ft y.op,fc ft y.dst,dC y.a.1,fc ft y.a.2,dC y.b.1,fc ft y.b.2,fc ft y.fn,A.v] sX)(i:bC e 0 bt)(z:bU e 5 p)(o:bU e 14 X)(M:∀I h',aG RsO e I->bY I 145=dC (jW bt fx y)->ay aR h h'->C .normal I h'):aK FF aiN e h C:=by
 have w:=O;have a:=t;simp at w a;unfold aiN;by_cases c:0<=y.dst
 .have⟨d,H⟩:∃k:Nat,y.dst=k:=⟨y.dst.toNat,ab⟩;rw[H] at a;have u:d<n:=ab
  have⟨x,O⟩:=aQ fx d;have⟨c,l,q,j,V,I,L,U,B⟩:=k.at D O;have⟨b,_⟩:=B h (.refl D);rw[q,j,V,I,S] at w;have F:¬(d:Int)<0:=ab
  have⟨g,S⟩:=x;by_cases c:g=1
  .subst c;simp[i,z,o,a,w,u,b,F,-ax,aB a,aB w];refine bh.call (V:=λv h'=>v=dC (gE bt y.op y.a.1 y.a.2 y.b.1 y.b.2)/\ay aR h h') (by simpa [aM] using Xj h D bt y.op d y.a.2 y.b.2 y.fn y.a.1 y.b.1 A.a A.l A.c) ?_;rintro _ x⟨rfl,T⟩;have E:jW bt fx y= !gE bt y.op y.a.1 y.a.2 y.b.1 y.b.2:=by simp[jW,qF,pG,H,F,O]
   simp;refine M _ _ ?_ (au E) T
   repeat (refine aG.set ?_)
   exact aG.refl _ _
  .have S:(g !=1)=ck:=aj c
   have E:jW bt fx y=ck:=by simp[jW,qF,pG,H,F,O,c]
   simp[i,z,o,a,w,u,b,F,c,S,-ax,aB a,aB w];refine M _ _ ?_ (au E) (.refl D)
   repeat (refine aG.set ?_)
   exact aG.refl _ _
 .have E:jW bt fx y=ck:=by simp[jW];exact jZ ab
  have d:y.dst<0:=ab
  simp[i,z,o,a,d,-ax,aB a];refine M _ _ ?_ (au E) (.refl D)
  repeat (refine aG.set ?_)
  exact aG.refl _ _
def anL:List Nat:=[12,13,14,15]++(aU 64).map (· +88)
def azM(h:az)(y:YB)(bt:Int)(fx:List (Int×Int))(e:Env)(b:Nat)(a:Env)(h':az):Prop:=
 ∃(j:Nat) (W:SV),b=cz y.ls-j/\j<=cz y.ls/\aG anL e a/\bC a 13 j/\bY a 12=W.v/\bm ia h.aw h' W.v (um bt fx (y.ls.take j))/\eD h h' y (gu y fx j)
def aez(b:cu h)(L:BZ h y)(I':kF False y.loc)(k:Sz h y p n m N G fx r)(U:cz y.ls<=100000)(S:∀q∈y.ls,q.1.dst<n/\rS n q.1.a/\rS n q.1.b/\(∀v∈q.1.args,rS n v)/\cz q.1.args<=1048576){x V:Nat}{P T:SV}(s:eR h x [P.v,y.L.v,fc ft kind,dC on.1,fc ft on.2,T.v] V)(z:¬gq y x)(i:bC e 0 bt)(H:bU e 5 p)(I:bU e 8 x)(f:bY e 12=cM.v)(g:bC e 13 0)(C':∀X h' a,aG anL e X->bY X 12=SV.v a->bm ia h.aw h' (SV.v a) (um bt fx y.ls)->eD h h' y (gu y fx (cz y.ls))->C (.exit 6) X h'):aK FF (.loop j_) e h C:=by
 have w:gu y fx 0=y:=Q;have jD:=L.L.len;refine aK.loop (azM h y bt fx e) ?_ (n:=cz y.ls) ⟨0,cM,Q,ab,aG.refl _ _,g,f,jZ ⟨Q,Q⟩,by rw[w];exact .refl L b⟩;rintro F X h'⟨j,a,rfl,g,M,U,Iw,D,F⟩;have O:=F.g.ok;have V:=k.kz b F;have q0:=M.at i;have w:=M.at H;have q8:=M.at I;have I:=F.g.aw;have X:∀t c,gq (gu y fx t) c->c<h.aw:=λt c ⟨l,e⟩=>L.lt b (by rw[<-xq (fx:=fx) y t l];exact e);have d:=F.g.get b s z;simp at d;unfold j_;by_cases I:j<cz y.ls
 .have wj:=ch ((j:Int)+1) ab ab;have⟨⟨x,A⟩,s⟩:=aQ y.ls j I;have⟨hyd,H,t,hyv,vI⟩:=S _ (cO s);dsimp only at hyd H t hyv vI;have qW:cz ((y.ls.take j).map (zP fx))=j:=by simp;omega
  have tN:(gu y fx j).ls[j]?=Z (x,A):=by show((y.ls.take j).map (zP fx)++y.ls.drop j)[j]?=_;rw[fC qW,s]
  obtain⟨z,L,o,f,g,S,S,L,c,_⟩:=F.w.L.el tN;have B:=c 0 8 ag;simp[-ax] at B;have f:y.L.a=Z ⟨z,0,K⟩:=g;clear g S;rw[f,jD] at d;have⟨W,c⟩:=V.hK;have z:=O.cg c;have S:=c;simp at S;have c:=z.lt;have f:¬p=h'.aw:=ab
  have c:cy h' p 0 3=Z [dB m.a m.l m.c,dB N.a N.l N.c,dB G.a G.l G.c]:=by rw[dx S J];rfl
  simp[q0,w,q8,U,d,I,B,c,z,f,-ax,aB d,aH,cn,bj];have⟨g,B,z,sX,c⟩:∃g,g=put (aJ h' [fc ft 0,fc ft 0,dC cd,fc ft 0,dC cd,fc ft 0,fc ft 0,dB K 0 0] 0) h'.aw 0 [fc ft 0,fc ft 0,dC cd,fc ft 0,dC cd,fc ft 0,fc ft 0,dB K 0 0] [fc ft x.op,fc ft x.dst,dC x.a.1,fc ft x.a.2,dC x.b.1,fc ft x.b.2,fc ft x.fn,dB A.a A.l A.c] 0/\ay aR h' g/\di g h'.aw [fc ft x.op,fc ft x.dst,dC x.a.1,fc ft x.a.2,dC x.b.1,fc ft x.b.2,fc ft x.fn,dB A.a A.l A.c]:=⟨_,Q,(ay.refl O).var _ _,h'.clock,by simp[aX]⟩;rw[<-B];clear B;have L:=V.k.cm O z;refine bh.call (V:=λu h'=>u=ix ⟨[dC (fw fx x.a).1,fc ft (fw fx x.a).2]⟩/\ay aR g h') (aj (CX z.ok L k.fl H)) ?_;rintro _ B⟨rfl,g⟩;have H:=L.cm z.ok g;have H:=g.get z.ok c;have c:=g.get z.ok (z.get O S (λh=>h));have S:cy B p 0 3=Z [dB m.a m.l m.c,dB N.a N.l N.c,dB G.a G.l G.c]:=by rw[dx c J];rfl
  have L:=g.ok.cg H;simp[w,H,S,f,-ax,cn,aB H,aH,aX];have⟨S,c,f,sX4,iI⟩:∃S,S=put B h'.aw 2 [fc ft x.op,fc ft x.dst,dC x.a.1,fc ft x.a.2,dC x.b.1,fc ft x.b.2,fc ft x.fn,dB A.a A.l A.c] [dC (fw fx x.a).1,fc ft (fw fx x.a).2] 0/\ay aR h' S/\di S h'.aw [fc ft x.op,fc ft x.dst,dC (fw fx x.a).1,fc ft (fw fx x.a).2,dC x.b.1,fc ft x.b.2,fc ft x.fn,dB A.a A.l A.c]:=⟨_,Q,(z.trans g).put ⟨sX,H⟩ (jZ (fq _)),B.clock,by simp[aX]⟩;rw[<-c];clear c;have c:=V.k.cm O f;refine bh.call (V:=λu h'=>u=ix ⟨[dC (fw fx x.b).1,fc ft (fw fx x.b).2]⟩/\ay aR S h') (aj (CX f.ok c k.fl t)) ?_;rintro _ S⟨rfl,L⟩;have z:=L.get f.ok iI;have c:=f.aw;have H:=L.aw;simp[z,aX];refine aK.cut (λc=>ay aR h' c/\di c h'.aw [fc ft x.op,fc ft x.dst,dC (fw fx x.a).1,fc ft (fw fx x.a).2,dC (fw fx x.b).1,fc ft (fw fx x.b).2,fc ft x.fn,dB A.a A.l A.c]) ⟨(f.trans L).put ⟨sX4,z⟩ (jZ (fq _)),S.clock,by simp[aX]⟩ ?_;rintro c⟨H,f,t⟩;have L:=F.cm H;have z:=k.kz b L;have S:=H.ok.wf _ _ t;have f:¬gq (gu y fx j) h'.aw:=λh=>av (X j _ h)
  refine aey H.ok L.w (L.i False I') z (x:=x) (row:=x.args) tN hyv vI t f rfl (au w) J J ?_;intro c S g E;have S:yn (gu y fx j) j x A (x.args.map (fw fx))=gu y fx (j+1):=by unfold yn gu;dsimp only;rw[set_drop qW s,kh,s,aL];rfl
  rw[S] at E;have T7:=L.trans E;have V:=k.kz b T7;have L:=E.g.get H.ok t f;have t:bY c 0=fc ft bt:=g.at (au q0);have b:bU c 5 p:=g.at (au w);have k:bU c 14 h'.aw:=g.at J;have f:bY c 12=a.v:=g.at (au Iw);have m13:bY c 13=fc ft j:=g.at (au U);obtain⟨w,w⟩:=V.hK;have B:=D.grow O H ai;have RH:=B.grow H.ok E.g (λO B e=>by have:=D.of B;have:=X j O e;omega);simp;refine aeY (bt:=bt) E.g.ok V.k V.fl w (y:=Al fx x) (A:=A) (by show x.dst<_;exact hyd) (by simpa [Al] using L) (au t) (au b) (by simp[k]) ?_;intro t V b S w;have z:=T7.cm w;have c:=RH.grow E.g.ok w ai;have VD:=w.get E.g.ok L;have p14:bU t 14 h'.aw:=b.at (by simp[k]);have L:bY t 12=a.v:=b.at (by simp[f]);have f:bY t 13=fc ft j:=b.at (by simp[m13]);have k:aG anL e t:=by
   refine aG.trans (aG.trans ?_ (g.cU)) (b.cU)
   exact aq
  have t:=Ol (fx:=fx) (bt:=bt) s;dsimp only at t;cases g:jW bt fx (Al fx x)
  .rw[g] at t S;simp[S,f,wj];refine⟨cz y.ls-(j+1),ab,j+1,a,Q,I,?_,J,au L,by rw[t];simpa using c,z⟩
   exact aq
  .rw[g] at t S;simp[S,L,p14,VD];have b:bp ia (aJ V (ia.enc (HO fx (x,A))) 0) (dB (Z ⟨V.aw,0,K⟩) 1 1) [HO fx (x,A)]:=dq (bX _ _ _);have V:=aO w.ok (ia.enc (HO fx (x,A))) 0;have x:=c.grow w.ok V ai;have s:=w.aw;have c:=E.g.aw;have s:=H.aw;have k:cz (um bt fx (y.ls.take j))<=cz y.ls:=by unfold um;refine qN (IW _ _) ?_;simp;omega
   obtain⟨k,c,c,s,L,H⟩:=fg (bytes:=80) V.ok (z:=[fc ft 0,fc ft 0,dC cd,fc ft 0,dC cd,fc ft 0,fc ft 0,dB K 0 0]) rfl x b ab ag (by simp;omega);obtain⟨g,rfl⟩:=bm.E5 s;refine dh (by simpa [Al,HO] using c) ?_;have b:=(z.cm V).go L (λO B=>⟨D.of B,λh=>by have:=D.of B;have:=X (j+1) O h;omega⟩);simp[f,wj];refine⟨cz y.ls-(j+1),ab,j+1,g,Q,I,?_,J,J,by rw[t];simpa using s,b⟩
   exact aq
 .have:j=cz y.ls:=ab
  subst this;rw[mO] at D;simp[q8,U,d,jD,-ax,aB d];exact C' _ _ a (by
   repeat (refine aG.set ?_)
   exact M) (au Iw) D F
end
section
variable{P N G:SV}{fx S:List (Int×Int)}{n s x:Nat}{B:SV}{d:List YB}
def aqk :∃a:Nat->Nat,(∀c b,a c=a b->c=b)/\∀(j:Nat)(c:GP×SV),(Cc fx ps)[j]?=Z c->(ps.map (AF fx))[a j]?=Z c:=by have⟨a,C,o⟩:=Yq (λq:GP×SV=> !qF fx q.1.dst) ps;refine⟨a,C,λj c h=>?_⟩;unfold Cc at h;rw[gM] at h;obtain⟨q,a,rfl⟩:=ed.1 h;have w:=cO a;rw[o j (cY.mp a).1] at a;rw[gM,a];show Z (AF fx q)=_;unfold AF;rw[bM (by have:=(EL.1 w).2;simpa using this)]
def azO(c:az)(x:Nat)(B:SV)(d:List YB)(bt:Int)(fx:List (Int×Int))(s o R:Nat)(m:Nat)(a:Env)(h':az):Prop:=
 ∃(j:Nat) (b:List YB),m=cz d-j/\j<=cz d/\bC a 0 bt/\bU a 4 R/\bU a 5 s/\bU a 6 o/\bC a 7 j/\cV c h' x B d B b/\cz b=cz d/\∀(i:Nat)(y z:YB),d[i]?=Z y->b[i]?=Z z->(i<j->z.g=Az bt fx y.g)/\(j<=i->z=y)
def aaG{m:az}(g:cu m)(V:FZ m x B d)(xi:xS B d)(t:x<=m.aw)(t:cz d<50)(t:∀y∈d,Ye n y.g)(X:GN m P N G fx S)(jw:cz fx=n)(w:∀c,dt P=Z c\/dt N=Z c\/dt G=Z c->¬cK B d c){k r:Int}{L R W a:Nat}(p:eR m s [P.v,N.v,G.v] W)(I:¬cK B d s)(f:eR m L (aC name k r B) a)(nG:¬cK B d L)(i:bC e 0 bt)(a:bU e 4 R)(H:bU e 5 s)(F:bU e 6 L)(k:bC e 7 0)(C':∀O h' v,bU O 4 R->bU O 6 L->cV m h' x B d B v->v.map YB.g=ie bt fx (d.map YB.g)->C (.exit 0) O h'):aK FF (.loop ke) e m C:=by
 refine aK.loop (azO m x B d bt fx s L R) ?_ (n:=cz d) ⟨0,d,Q,ab,i,a,H,F,k,.refl V g,Q,λk r F a F=>⟨λh=>ab,λ_=>by rw[a] at F;cases F;rfl⟩⟩;rintro H O h'⟨j,v,rfl,O,q0,q4,q5,q6,q7,T,uA,H'⟩;have O:=T.g.ok;have H:=T.g.aw;have M:=g.wf _ _ p;have lG:=g.wf _ _ f;have H:=T.g.get g f nG;have f:=T.w.A.len;have low:∀c,c<m.aw->¬cK B d c->¬cK B v c:=λc E V e=>(T.s c e).elim V ab;simp[aC] at H;rw[f,uA] at H;unfold ke;by_cases bg:j<cz d
 .have wj:=ch ((j:Int)+1) ab ab;have⟨y,hy⟩:=aQ d j bg;have⟨z,f⟩:=aQ v j;have V:=(H' j y z hy f).2 (fq _);subst V;have U:=t z (cO hy);have t:=T.w.at f;have V:kF False z.loc:=Ly.r (T.x xi) f;have I1:kF True z.loc:=λa' b c a F=>(V a' b c a F).imp id λh=>h.1.elim;have sub:∀c,gq z c->cK B v c:=λc ⟨l,e⟩=>⟨Z (j,l),by rw[cC f];exact e⟩;obtain⟨bB,r,r,r,fD,CI,r,r,A,r⟩:=T.w.A.el f;have r:=A 0 6 ag;simp[-ax] at r;rw[fD] at H;have YH:=cD fD;have A:=O.cg H;have D:=O.cg CI;simp[q6,q7,H,bg,r,A,D,-ax,aB H,aH];have⟨a,A,D,sX,r⟩:∃a,a=put (aJ h' [dB K 0 0,dB K 0 0,fc ft 0,dC cd,fc ft 0,dB K 0 0] 0) h'.aw 0 [dB K 0 0,dB K 0 0,fc ft 0,dC cd,fc ft 0,dB K 0 0] [dB z.P.a z.P.l z.P.c,dB z.L.a z.L.l z.L.c,fc ft z.kind,dC z.on.1,fc ft z.on.2,dB z.T.a z.T.l z.T.c] 0/\ay aR h' a/\di a h'.aw [z.P.v,z.L.v,fc ft z.kind,dC z.on.1,fc ft z.on.2,z.T.v]:=⟨_,Q,(ay.refl O).var _ _,h'.clock,by simp[aX]⟩;rw[<-A];clear A;have A:=D.ok.wf _ _ r;have T1:eD h' a z z:=(eD.refl t O).cm D;have own:∀c,gq z c->c<h'.aw:=λc ⟨l,e⟩=>t.lt O e;have k1:Sz a z s n P N G fx S:=by refine⟨(X.go g T.g λc E e=>w c E e).cm O D,λc E e=>low c ?_ (w c E) (sub c e),⟨W,D.get O (T.g.get g p I)⟩,λe=>low _ M I (sub _ e),jw⟩;rcases E with e|e|e;exact X.tk.lt g e;exact X.N.lt g e;exact X.G.lt g e
  refine aeA D.ok T1.w I1 k1 (by have:=U.pl;simp[YB.g] at this;exact this) (λq t=>U.ph q.1 (KA t)) r (λe=>av (own _ e)) (au q5) J (by simp[cM]) J ?_;intro I F w A t9 iX p;have M:=D.aw;have M:=p.g.aw;have⟨y2,M⟩:∃y2,y2=As z fx (cz z.ps):=⟨_,Q⟩;rw[<-M] at p;have alQ:∀c,gq y2 c↔gq z c:=λc=>by rw[M];unfold gq;simp only[WR]
  have T2:=T1.trans p;have k2:=k1.kz D.ok p;have nX:¬gq z h'.aw:=λe=>av (own _ e)
  have dy:=p.g.get D.ok r nX;have hls:y2.ls=z.ls:=by rw[M];rfl
  have D:y2.L=z.L:=by rw[M];rfl
  have p0:bY I 0=fc ft bt:=A.at (au q0);have p4:bU I 4 R:=A.at (au q4);have p5:bU I 5 s:=A.at (au q5);have p6:bU I 6 L:=A.at (au q6);have p7:bY I 7=fc ft j:=A.at (au q7);have p8:bU I 8 h'.aw:=A.at J;simp;refine aez p.g.ok T2.w (T2.i False V) k2 (bt:=bt) (by rw[hls];have:=U.ll;simp[YB.g] at this;exact this) (λq t=>U.li q.1 (KA (by rw[<-hls];exact t))) (P:=z.P) (by rw[D];exact dy) (λe=>nX ((alQ _).1 e)) (au p0) (au p5) (au p8) (by simp[cM]) J ?_;intro A h3 D I t12 fU r;have t:=r.g.aw;have⟨t,V⟩:∃t,t=gu y2 fx (cz y2.ls):=⟨_,Q⟩;rw[<-V] at r;have aaA:∀c,gq t c↔gq z c:=λc=>by rw[V,<-alQ];unfold gq;simp only[xq]
  have T3:=T2.trans r;have k3:=k2.kz p.g.ok r;have dK:=r.g.get p.g.ok dy (λe=>nX ((alQ _).1 e));have t9':bY A 9=w.v:=I.at (au t9);have m4:bU A 4 R:=I.at (au p4);have m0:bY A 0=fc ft bt:=I.at (au p0);have m5:bU A 5 s:=I.at (au p5);have m6:bU A 6 L:=I.at (au p6);have m7:bY A 7=fc ft j:=I.at (au p7);have m8:bU A 8 h'.aw:=I.at (au p8);have asN:=iX.grow p.g.ok r.g (λb I e=>by have:=iX.of I;have:=own _ ((alQ b).1 e);omega);obtain⟨A,A⟩:=k3.hK;simp at dK A;have nKX:¬s=h'.aw:=ab
  simp[t9',t12,m5,m8,dK,A,nKX,aX];have aBx:(put h3 h'.aw 0 [dB z.P.a z.P.l z.P.c,dB z.L.a z.L.l z.L.c,fc ft z.kind,dC z.on.1,fc ft z.on.2,dB z.T.a z.T.l z.T.c] [dB w.a w.l w.c] 0).tr.get h'.aw=Z (.bZ [dB w.a w.l w.c,dB z.L.a z.L.l z.L.c,fc ft z.kind,dC z.on.1,fc ft z.on.2,dB z.T.a z.T.l z.T.c] cd 0 h3.clock):=by simp[aX]
  have⟨h4,eh4,A,sX4,iI⟩:∃h4,h4=put (put h3 h'.aw 0 [dB z.P.a z.P.l z.P.c,dB z.L.a z.L.l z.L.c,fc ft z.kind,dC z.on.1,fc ft z.on.2,dB z.T.a z.T.l z.T.c] [dB w.a w.l w.c] 0) h'.aw 1 [dB w.a w.l w.c,dB z.L.a z.L.l z.L.c,fc ft z.kind,dC z.on.1,fc ft z.on.2,dB z.T.a z.T.l z.T.c] [dB D.a D.l D.c] 0/\ay (· =h'.aw) h3 h4/\di h4 h'.aw [w.v,D.v,fc ft z.kind,dC z.on.1,fc ft z.on.2,z.T.v]:=⟨_,Q,((ay.refl (S:=(· =h'.aw)) r.g.ok).put ⟨_,dK⟩ (kd Q)).put ⟨_,aBx⟩ (kd Q),h3.clock+1,by simp[aX]⟩;rw[<-eh4];clear eh4;have asU:∀b,dt P=Z b\/dt N=Z b\/dt G=Z b->h'.aw≠b:=λb I e=>by
   have:b<m.aw:=by rcases I with e|e|e;exact X.tk.lt g e;exact X.N.lt g e;exact X.G.lt g e
   omega
  have g:=k3.go r.g.ok A (λc e=>kd ⟨ab,λb I=>by rw[e];exact asU b I⟩);refine bh.call (V:=λu h'=>u=ix ⟨[dC (fw fx z.on).1,fc ft (fw fx z.on).2]⟩/\ay aR h4 h') (aj (CX (v:=z.on) A.ok g.k jw U.on)) ?_;rintro _ h5⟨rfl,g⟩;have jQ:=g.get A.ok iI;have nX3:¬gq t h'.aw:=λe=>nX ((aaA _).1 e);have T5:=(T3.go A (λc e=>⟨ab,by rw[e];exact nX3⟩)).cm g;have X:=A.aw;have X:=g.aw;have⟨m,eh6,X,sX6,nz⟩:∃m,m=put h5 h'.aw 3 [dB w.a w.l w.c,dB D.a D.l D.c,fc ft z.kind,dC z.on.1,fc ft z.on.2,dB z.T.a z.T.l z.T.c] [dC (fw fx z.on).1,fc ft (fw fx z.on).2] 0/\ay (· =h'.aw) h5 m/\di m h'.aw [dB w.a w.l w.c,dB D.a D.l D.c,fc ft z.kind,dC (fw fx z.on).1,fc ft (fw fx z.on).2,dB z.T.a z.T.l z.T.c]:=⟨_,Q,(ay.refl g.ok).put ⟨_,jQ⟩ (kd Q),h5.clock,by simp[aX]⟩;have T6:=T5.go X (λc e=>⟨ab,by rw[e];exact nX3⟩);have nBz:∀c,dt B=Z c->¬gq z c:=λc E ⟨l,e⟩=>by have:=T.w.tQ K (Z (j,l)) c E (by rw[cC f];exact e);cases this
  have lB:=O.wf _ _ CI;have A5:=T.w.A.go O T5.g λc E e=>nBz c e E;have⟨bB6,cs6,oB6,sB6,MH,Zo,hjB6,VJ,ahs,VW⟩:=A5.el f;rw[fD] at MH;cases MH;have hG5:=T5.g.get O H (λe=>low _ lG nG (sub _ e));have hf6:=VJ 0 6 ag;simp at hf6;have nBX:¬bB=h'.aw:=ab
  have nGX:¬L=h'.aw:=ab
  simp at jQ;simp[m6,m7,m8,jQ,hG5,nGX,nBX,Zo,hf6,bg,aX,wj];rw[<-eh6];clear eh6;have aoi:=X.get g.ok Zo nBX;have⟨φ',φi,φe⟩:=aqk (fx:=fx) (ps:=z.ps);have⟨ψ',ψi,ψe⟩:=amy (HO fx) (λq=>jW bt fx q.1) z.ls;have ao9:t.ls=z.ls.map (zP fx):=by rw[V];unfold gu;simp[hls]
  have aCG:t.ps=z.ps.map (AF fx):=by rw[V,M];simp[gu,As]
  have L:∀c,bx w.v c->a.aw<=c:=λc E=>iX.of E;have w3b:∀c,bx D.v c->F.aw<=c:=λc E=>fU.of E;have aP:=bm.arr ((((asN.grow r.g.ok A (λb I e=>av (L b I))).grow A.ok g ai).grow g.ok X (λb I e=>av (L b I))));have L:=bm.arr ((((fU.grow r.g.ok A (λb I e=>av (w3b b I))).grow A.ok g ai).grow g.ok X (λb I e=>av (w3b b I))));rw[hls] at L;have I:=T6.x3 (h':=m) (P':=w) (L':=D) (ps':=Cc fx z.ps) (ls':=um bt fx z.ls) (fw fx z.on) I1 φ' ψ' φi ψi (λk b h=>⟨b,by rw[aCG];exact φe k b h,Q,Q⟩) (λk b h=>by
   have⟨q,a,F⟩:=ψe k b h;exact⟨zP fx q,by rw[ao9,gM,a];rfl,by rw[F];rfl,by rw[F];rfl⟩) ((ay.refl (S:=aR) X.ok).cU λ_ _ h=>h.elim) aP L (λc h=>kd ⟨av (bm.dt iX h),λe=>by have:=bm.dt iX h;have:=own c ((aaA c).1 e);omega⟩) (λc h=>kd ⟨av (bm.dt fU h),λe=>by have:=bm.dt fU h;have:=own c ((aaA c).1 e);omega⟩) (λc a F=>by
   have:=bm.dt fU F;have:=(bm.arr iX).lt p.g.ok a;omega)
  have⟨p,b⟩:∃p:YB,p= {t with P:=w,ps:=Cc fx z.ps,L:=D,ls:=um bt fx z.ls,on:=fw fx z.on} :=⟨_,Q⟩;rw[<-b] at I;have L:t.kind=z.kind:=by rw[V,M];rfl
  have g:t.T=z.T:=by rw[V,M];rfl
  have A:t.to=z.to:=by rw[V,M];rfl
  have t:p.g=Az bt fx z.g:=by
   have V:(um bt fx z.ls).map (·.1)=((z.ls.map (·.1)).map (Al fx)).filter (jW bt fx):=by
    unfold um;have M:(z.ls.map (·.1)).map (Al fx)=(z.ls.map (HO fx)).map (·.1):=by rw[bL,bL];rfl
    rw[M];exact(wb (f:=λq:GI×SV=>q.1) (p:=jW bt fx)).symm
   have M:(Cc fx z.ps).map (·.1)=(xp (λq=>qF fx q.dst) (z.ps.map (·.1))).map (Qy fx):=by unfold xp Cc;rw[wb,bL,bL];rfl
   rw[b];simp only[YB.g,Az,L,A,V,M]
  have M:=bc (off:=j*6) (vs:=[dB w.a w.l w.c,dB D.a D.l D.c,fc ft z.kind,dC (fw fx z.on).1,fc ft (fw fx z.on).2,dB z.T.a z.T.l z.T.c]) X.ok aoi;have A:=VW p 0 [dB w.a w.l w.c,dB D.a D.l D.c,fc ft z.kind,dC (fw fx z.on).1,fc ft (fw fx z.on).2,dB z.T.a z.T.l z.T.c] J (by rw[b];simp[aX,L,g]) (put m bB (j*6) cs6 [dB w.a w.l w.c,dB D.a D.l D.c,fc ft z.kind,dC (fw fx z.on).1,fc ft (fw fx z.on).2,dB z.T.a z.T.l z.T.c] oB6) ⟨m.clock,J⟩;generalize put m bB (j*6) cs6 [dB w.a w.l w.c,dB D.a D.l D.c,fc ft z.kind,dC (fw fx z.on).1,fc ft (fw fx z.on).2,dB z.T.a z.T.l z.T.c] oB6=h7 at*;have m:∀c,c=bB->∀l,p.loc l≠Z c:=λc E l e=>by rcases I.s l c e with⟨w,D,_⟩|h;exact nBz c (by rw[E];exact YH) ⟨w,D⟩;omega
  have D:BZ h7 p:=I.w.go X.ok M λc l E e=>m c E l e;have X:ay (λc=>gq z c\/dt B=Z c) h' h7:=(I.g.cU λc _ e=>jZ e).trans (M.cU λc _ e=>kd (by rw[e];exact YH));have M:=T.step X (λc E=>jZ (E.elim (sub c) λe=>⟨K,e⟩)) (T.w.py O X ab f (λc E o O=>?_) A D I.i λl c e=>I.s l c e)
  refine⟨cz d-(j+1),ab,j+1,v.set j p,Q,bg,au m0,au m4,au m5,au m6,J,M,au uA,λk a' c a F=>?_⟩;rw[fO] at F;by_cases e:j=k;subst e;rw[bK Q,bK ab] at F;cases F;rw[hy] at a;cases a;exact⟨λ_=>t,λh=>ab⟩;rw[bM e] at F;have⟨M,p⟩:=H' k a' c a F;exact⟨λh=>M ab,λh=>p ab⟩;rcases E with⟨l,e⟩|e;exact kd ⟨l,((T.x xi) o (Z (j,l)) c O (by rw[cC f];exact e)).elim id λh=>h.1.elim⟩;exact jZ (T.w.tQ K o c e O).symm
 .have:j=cz d:=ab
  subst this;simp[q6,q7,H,-ax,aB H];refine C' _ _ v (au q4) (au q6) T (BT λk=>?_);unfold ie;rw[gM,gM,gM];rcases Kz k (cz d) with H|H;have⟨y,hy⟩:=aQ d k H;have⟨z,f⟩:=aQ v k (by rw[uA];exact H);rw[hy,f];simp only[Eo];rw[(H' k y z hy f).1 H];rw[xU H,xU (by rw[uA];exact H)];rfl
end
def TZ(F:cu M)(f:ay aR M h){bt:Int}{name:ByteArray}{p n:Nat}(i:qP M B bs)(S:St n bs)(k:p<=n)(b:n<1000000):aY FF 26 [fc ft bt,ix ⟨aC name p n B⟩] h (λv h'=>∃b d,uq bs p n b d/\lD name p n (vJ (ie bt b bs) (cz bs)) h v h'):=by
 have O:=f.ok;have D:=S.E;have a:=D.n50;have D:¬h.aw=h.aw+1:=ab
 refine aY.of Cu ?_;unfold tG;simp[aC,D];refine bh.cut (λa=>ay aR h a/\(di a h.aw (aC name p n B))/\di a (h.aw+1) [gX ⟨⟨[]⟩⟩,fc ft 0,fc ft 0,dB K 0 0]) ?_ ?_;exact⟨((ay.refl O).new _ _).new _ _,⟨0,by simp[D,aC]⟩,0,J⟩;rintro a⟨D,⟨E,w⟩,O,O⟩;have H:=D.ok.wf _ _ O;refine bh.call (V:=λv h'=>ay aR a h'/\∃(H N G:SV) (b d:List (Int×Int)),v=ix ⟨[H.v,N.v,G.v]⟩/\GN h' H N G b d/\uq bs p n b d) (by simpa [aC] using adg D.ok (name:=name) (P:=p) (n:=n) (i.mono F (f.trans D)) S k ab) ?_;rintro _ a⟨C,H,N,G,b,d,rfl,k,L⟩;have j:=C.get D.ok w;have w:=C.get D.ok O;have O:=D.aw;have O:=C.aw;have m:¬h.aw=a.aw:=ab
 have O:=j;simp[aC] at O;simp[O,m];refine bh.cut (λO=>ay aR a O/\di O a.aw [H.v,N.v,G.v]) ⟨(ay.refl C.ok).var _ _,a.clock,by simp[aX]⟩ ?_;rintro O⟨o,W,N⟩;have G:=k.cm C.ok o;have u:=o.ok.wf _ _ N;have j:=(D.trans C).trans o;refine bh.call (V:=lD name p n bs O) (by simpa [aC] using ui F (f.trans j) (name:=name) (p:=p) (r:=n) i S.Hv ab) ?_;rintro _ H⟨a,f,i,rfl,F,m,g⟩;have q:=a.get o.ok N;have r:=(o.trans a).get C.ok w;have t:=G.cm o.ok a;have w:=o.aw;have w:=a.aw;have w:cz i=cz bs:=by have:=congrArg bW g;simpa using this
 simp[aC];refine aK.cut (λD=>ay aR H D/\di D H.aw (aC name p n f)) ⟨(ay.refl a.ok).var _ _,H.clock,by simp[aX,aC]⟩ ?_;rintro D⟨w,D,I⟩;have s:=F.cm a.ok w;have N:∀c,c<O.aw->¬cK f i c:=λc D ⟨l,e⟩=>av (F.new l c e)
 have k:¬cK f i H.aw:=λ⟨l,e⟩=>av (F.lt a.ok e)
 have f:=w.aw;refine aaG w.ok s m ab ab (λy m=>S.RK (by rw[<-g];exact KA m)) (t.cm a.ok w) L.fl (λc D=>N c (by rcases D with e|e|e;exact G.tk.lt o.ok e;exact G.N.lt o.ok e;exact G.G.lt o.ok e)) (bt:=bt) (R:=h.aw+1) (w.get a.ok q λh=>h) (N _ u) I k J J J J J ?_
 intro q m G f q H O;have i:=H.g.get w.ok I k;have k:=H.g.get w.ok (w.get a.ok r λh=>h) (N _ ab);rw[g] at O;have g:St n (G.map YB.g):=by rw[O];exact S.kz
 have r:cz (G.map YB.g)=cz bs:=by rw[O];simp[ie]
 have F:=H.g.ok;simp[aC] at i;simp[f,q,i];refine bh.call (V:=lD name p n (vJ (G.map YB.g) (cz (G.map YB.g))) m) (by simpa [aC] using aeF F (.refl F) (name:=name) (p:=p) (r:=n) H.w.view g.E g.Hv) ?_;rintro _ g⟨S,g,q,rfl,I,u,G⟩;have i:=S.get F k;simp[aC,f,i];have F:=bc (off:=0) (vs:=[gX name,fc ft p,fc ft n,g.v]) S.ok i;simp at F;have i:=H.g.aw;have i:ay aR h m:=((j.trans a).trans w).trans' H.g ai λc D e=>N c ab e;rw[r,O] at G;exact⟨b,⟨d,L⟩,(i.trans S).trans' F ai (λc D e=>ab),g,q,by simp[aC],(I.go S.ok F (λc l e F=>av (I.new l c F))).cU ab,u,G⟩
def LwL:List Nat:=[8]++(aU 19).map (· +32)
def LwI(o:az)(c:SV)(P:ni)(V:List GF)(e:Env)(m:Nat)(b:Env)(h':az):Prop:=
 ∃(k:Nat) (a:List XF),m=cz V-k/\k<=cz V/\aG LwL e b/\bC b 8 k/\ay (bx c.v) o h'/\eM x7 h' c a/\cz a=cz V/\∀(i:Nat)(z:XF)(f:GF),i<k->a[i]?=Z z->V[i]?=Z f->Ew o.aw (RE P) h' z f
def Xz{M H:az}(S:cu M)(a:ay aR M H){G F w O:SV}(j:ad (fR M) 4 M F.v V)(x:∀f∈V,iv f)(q:cz V<=10){k:List XF}(hW:eM x7 H O k)(b:cz k=cz V)(HB:∀c,bx O.v c->M.aw<=c)(r:eR H U [G.v,F.v] o)(d:eR H X [w.v,O.v] sX)(w:¬bx O.v U)(A:¬bx O.v X)(y:bU e 1 U)(T:bU e 6 X)(I:bC e 7 bt)(u:bC e 8 0)(C':∀D h' m,aG LwL e D->ay (bx O.v) H h'->eM x7 h' O m->cz m=cz V->(∀(i:Nat)(z:XF)(f:GF),m[i]?=Z z->V[i]?=Z f->Ew H.aw (RE (LC bt)) h' z f)->C (.exit 0) D h'):aK FF (.loop iO) e H C:=by
 have s:=a.ok;have F:=ad.len j;refine aK.loop (LwI H O (LC bt) V e) ?_ (n:=cz V) ⟨0,k,Q,ab,aG.refl _ _,u,.refl s,hW,b,λi z f h=>ab⟩;rintro u D h'⟨k,m,rfl,D,q,l,g,P,N,D'⟩;have p:=g.ok;have D:=g.aw;have u:ay aR M h':=a.trans' g ai λc a e=>av (HB c e)
 have q1:=q.at y;have q6:=q.at T;have q7:=q.at I;have T:=g.get s r w;have b:=g.get s d A;have D:=P.len;simp at T b;rw[F] at T;rw[D,N] at b;unfold iO;by_cases a:k<cz V
 .have wk:=ch ((k:Int)+1) ab ab;have⟨f,F⟩:=aQ V k a;have⟨z,I⟩:=aQ m k;have A:=x f (cO F);have x:=A.head.aF;have r:=A.head.params;have⟨w,hpn⟩:∃n:Nat,f.params=n:=⟨f.params.toNat,ab⟩;have⟨d,y⟩:∃n:Nat,f.aF=n:=⟨f.aF.toNat,ab⟩;have r:f.aF.toNat=d:=ab
  have ep:f.params.toNat=w:=ab
  obtain⟨x,x,x,O,_,_,⟨B,rfl,sB⟩,oF,q⟩:=ad.later S j F;have D:=q h' u 0 4 ag;simp[-ax] at D;rw[hpn,y] at D;rw[O] at T;have⟨O,cs,o',j,y,q,x,dD,_,eQ⟩:=P.el I;rw[y] at b;have x:=p.cg T;have I:=p.cg b;have j:=u.cg oF;have Yj:=p.st _ _ _ _ _ b;simp[q1,q6,q7,l,T,b,aB T,aB b,a,D,x,I,j,aI,-ax];have I:=bk p;have dy:=I.get p b;have rC:=I.get p q;have D:(tick h').aw=h'.aw:=Q;generalize tick h'=b at*;have j:=A.st;rw[r] at j;refine bS.call (V:=λv x=>∃q D,uq f.blocks w d q D/\lD f.name w d (vJ (ie bt q f.blocks) (cz f.blocks)) b v x) (by simpa [aC] using TZ S (u.trans I) (name:=f.name) (p:=w) (n:=d) sB j ab ab) ?_;rintro _ x⟨q,S,L,W,u,u,rfl,S,u,u⟩;have V3:=S.view;rw[u] at V3;have u:St d (vJ (ie bt q f.blocks) (cz f.blocks)):=j.kz.Ti _;have D:=W.get I.ok dy;have j:=W.get I.ok rC;simp[D,Yj];refine bS.call (V:=RtZ f.name w d (vJ (ie bt q f.blocks) (cz f.blocks)) x) (by simpa [aC] using aaT W.ok (.refl W.ok) (name:=f.name) (r:=d) V3 u ab ab) ?_;rintro _ S⟨t,d,no,u,E,y4,rfl,W4,q,M4⟩;rw[<-r,<-ep] at L;have q:=A.ref ab L d no;rw[ep] at q;have d:=u.get W.ok D;have D:=u.get W.ok j;have A:=dD 0 4 ag;simp at A;simp[aC,d,Yj,a,D,A,l,wk];have d:=(I.trans W).trans u;have j:O<H.aw:=hW.cg s (fH y);have r:=bc (off:=k*4) (vs:=[cW f.name,fc ft w,fc ft (fT w t).1,dB E.a E.l E.c]) u.ok D;have D:=eQ ⟨f.name,w,(fT w t).1,E⟩ 0 [cW f.name,fc ft w,fc ft (fT w t).1,dB E.a E.l E.c] J rfl (put S O (k*4) cs [cW f.name,fc ft w,fc ft (fT w t).1,dB E.a E.l E.c] o') ⟨S.clock,J⟩;generalize put S O (k*4) cs _ o'=h5 at*;refine⟨cz V-(k+1),ab,k+1,m.set k ⟨f.name,w,(fT w t).1,E⟩,Q,a,?_,J,(g.trans d.cm).trans (r.cU λc _ e=>e▸fH y),D,au N,λi j D s s b=>?_⟩
  .exact aq
  .rw[fO] at s;by_cases a:k=i;subst a;rw[bK Q,bK ab] at s;cases s;rw[F] at b;cases b;have y:Ew H.aw (RE (LC bt)) S ⟨f.name,w,(fT w t).1,E⟩ f:=⟨x.aw,y4,(fT w t).1,av W.aw,W4,⟨Q,hpn.symm,Q⟩,by rw[M4];exact q⟩;exact y.grow u.ok r λx e=>jZ ab
   rw[bM a] at s;exact((D' i j D ab s b).grow p d (λ_ h=>h.elim)).grow u.ok r λx e=>jZ ab
 .have:k=cz V:=ab
  subst this;simp[q1,l,T,aB T,-ax];refine C' _ _ m ?_ g P N λi z f a O=>D' i z f (av ((cY.mp O).1)) a O
  exact aq
def Xv(o:cu h)(c a:Int):aY FF 46 [fc ft c,fc ft a] h (λv h'=>v=ix ⟨[fc ft c,fc ft a]⟩/\ay aR h h'):=by refine aY.of Ej ?_;unfold vi;simp[aX];exact(ay.refl o).var _ _
def amo(P:ni)(b:List GG)(V:List GF)(h:az)(G F:SV)(c a:Int):Prop:=
 (∃k:Nat,c=10/\a=k/\G=cM/\F=cM/\anD P V k)\/(c=0/\a=0/\∃o,uR h G F ⟨b,o⟩/\JD (PL P) V o)
section
variable{P:ni}{V d:List GF}{j k:Nat}
def Jo(R:JD (RE P) V d)(o:j<cz V):∃(f w:GF) (r:Nat×List GB),V[j]?=Z f/\d[j]?=Z w/\RE P f r/\w=⟨f.name,f.params,r.1,r.2⟩:=by have⟨f,c⟩:=aQ V j o;have⟨w,a⟩:=aQ d j (by rw[R.1];exact o);have⟨r,b,C⟩:=R.2 j f w c a;exact⟨f,w,r,c,a,b,C⟩
def UW(d:List GF)(j:Nat)(b:Bool):Prop:=∀w:GF,d[j]?=Z w->jE w.aF w.blocks=b
def agk(R:JD (RE P) V d)(B:anD P V k):k<cz V/\UW d k ck/\∀i,i<k->UW d i cd:=by
 have⟨f,q,o,p,l,n⟩:=B;have E:=(cY.mp o).1;refine⟨E,λw b=>?_,λi c w b=>?_⟩
 obtain⟨r,a,rfl⟩:=R.2 k f w o b;cases a.1 q p;exact l;obtain⟨D,O,r,a,C,I,rfl⟩:=Jo R (show i<cz V by omega);rw[b] at C;cases C;have⟨b,H,F⟩:=n i D c a;cases I.1 b H;exact F
def ab7{o:List GF}(R:JD (RE P) V d)(M:JD (PL P) V o):o=d/\∀i,i<cz V->UW d i cd:=by
 have c:∀i,i<cz V->∃w,d[i]?=Z w/\o[i]?=Z w/\jE w.aF w.blocks=cd:=λi a=>by obtain⟨f,w,r,b,C,F,rfl⟩:=Jo R a;have⟨E,e⟩:=aQ o i (by rw[M.1];exact a);obtain⟨q,⟨p,l⟩,rfl⟩:=M.2 i f E b e;cases F.1 q p;exact⟨_,C,e,l⟩
 refine⟨BT λi=>?_,λi a w D=>?_⟩;rcases Kz i (cz V) with a|a;have⟨w,b,C,_⟩:=c i a;rw[b,C];rw[xU (by rw[M.1];exact a),xU (by rw[R.1];exact a)];have⟨H,b,_,l⟩:=c i a;rw[D] at b;cases b;exact l
end
def GvI(b:az)(X:Nat)(a:List GF)(m:Nat)(e:Env)(h':az):Prop:=
 ∃j:Nat,m=cz a-j/\j<=cz a/\bU e 5 X/\bU e 6 (X+1)/\bU e 7 (X+2)/\bC e 9 j/\ay aR b h'/\∀i,i<j->UW a i cd
def Zj(W:cu h){P':ni}{G0 F0 U G Gw Fw:SV}{q:List GG}{V a:List GF}{H A:Int}(T:amo P' q V h U G H A)(R:JD (RE P') V a)(C:uR h Gw Fw ⟨q,a⟩)(Ld:cz q<=10)(vn:∀g∈q,cz g.init<1000000)(jw:cz V<=10):aY FF 19 [ix ⟨[G0.v,F0.v]⟩,ix ⟨[U.v,G.v]⟩,ix ⟨[fc ft H,fc ft A]⟩,ix ⟨[Gw.v,Fw.v]⟩] h (Uv h):=by
 have l1:=ad.len C.2;have wl:=R.1;dsimp only at l1;refine aY.of D0 ?_;unfold uV;have n1:¬h.aw=h.aw+1:=ab
 simp[n1];refine aK.cut (λc=>ay aR h c/\(di c (h.aw+1) [U.v,G.v])/\(di c (h.aw+1+1) [fc ft H,fc ft A])/\di c (h.aw+1+2) [Gw.v,Fw.v]) ⟨((((ay.refl W).new _ _).new _ _).new _ _).new _ _,⟨0,J⟩,⟨0,J⟩,0,J⟩ ?_;rintro c⟨d,⟨s1,hV⟩,⟨s2,hA⟩,s3,hX⟩;refine aK.loop (GvI c (h.aw+1) a) ?_ (n:=cz a) ⟨0,Q,ab,J,J,J,J,.refl d.ok,λi m=>ab⟩;rintro m' e h'⟨j,rfl,hj,X,u,N,p,g,P⟩;have s:=g.ok;have b:=d.trans g;have E:=g.get d.ok hV;have H':=g.get d.ok hA;have z:=g.get d.ok hX;simp at E H' z;rw[l1] at z;unfold rE;by_cases bg:j<cz a
 .have wj:=ch ((j:Int)+1) ab ab;obtain⟨f,w,r,_,D,l,rfl⟩:=Jo R (show j<cz V by omega);obtain⟨bF,aDW,cF,GA,_,_,⟨B,rfl,sB⟩,oF,dg⟩:=ad.later W C.2 D;have r0:=dg h' b 0 4 ag;simp[-ax] at r0;have dy:=z;rw[GA] at dy;simp[N,p,dy,aB dy,bg,r0,-ax];have lgb:∀t,UW a j t->jE r.1 r.2=t:=λt h=>h _ D;refine bh.call (V:=λv x=>ay aR h' x/\v=dC (jE r.1 r.2)) (by simpa [aC] using Xc s (name:=f.name) (p:=f.params) (r:=r.1) (qP.mono sB W b) (by have:=l.2.2.1;dsimp only;omega) (by have:=l.2.2.2;dsimp only;omega)) ?_;rintro _ x⟨o,rfl⟩;have ju:=b.trans o;cases F:jE r.1 r.2
  .simp[p,wj];refine⟨cz a-(j+1),ab,j+1,Q,bg,au X,au u,au N,J,g.trans o,λi m w C=>?_⟩;rcases Kz i j with k|k;exact P i k w C
   .obtain rfl:i=j:=ab
    rw[D] at C;cases C;exact F
  .rcases T with⟨k,rfl,rfl,rfl,rfl,B⟩|⟨_,_,Hx,_,M⟩
   .have⟨S,L,ln⟩:=agk R B;have h3':=D;clear D;have ek:k=j:=by
     rcases Nat.lt_trichotomy k j with e|e|e;have⟨_,w,_,_,C,_⟩:=Jo R S;have:=P k e w C;rw[L w C] at this;cases this
     exact e;have:=lgb cd (ln j e);rw[F] at this;cases this
    subst ek;have n:=o.get s H';have I:=o.get s E;have oA:=o.ok.cg n;have oV:=o.ok.cg I;have sA:=o.ok.st _ _ _ _ _ n;have sV:=o.ok.st _ _ _ _ _ I;simp[u,p,n,aB n,oA,aI,-ax];have O:=bk o.ok;generalize tick x=D at*;have JU:=O.get o.ok n;have hV3:=O.get o.ok I;refine bS.call (V:=λv h'=>v=ix ⟨[fc ft 10,fc ft (k:Int)]⟩/\ay aR D h') (aj (Xv O.ok 10 k)) ?_;rintro _ h4⟨rfl,y⟩;have X4:=y.get O.ok JU;have hV4:=y.get O.ok hV3;simp[X,u,X4,hV4,sA,sV];refine bS.call (V:=λv h'=>v=dC ck/\ay aR h4 h') (by simpa [cM] using QV y.ok cM cM) ?_;rintro _ h5⟨rfl,g5⟩;simp;exact⟨((ju.trans O).trans y).trans g5,Q⟩
   have:=lgb cd ((ab7 R M).2 j ab);rw[F] at this;cases this
 .have:j=cz a:=ab
  subst this;rcases T with⟨k,rfl,rfl,rfl,rfl,B⟩|⟨rfl,rfl,Hx,n,M⟩;have⟨S,L,_⟩:=agk R B;have⟨_,w,_,_,C,_⟩:=Jo R S;have:=P k ab w C;rw[L w C] at this;cases this
  obtain⟨rfl,_⟩:=ab7 R M;simp[X,u,N,p,H',E,z];refine bh.call (V:=Uv h') (by simpa [l1] using XD s (n.mono W b) (C.mono W b) (by dsimp only;omega) (λg F=>av (vn g F)) (by dsimp only;omega) (λf F=>by have⟨i,m⟩:=iG F;obtain⟨y,w,r,_,D,l,rfl⟩:=Jo R (show i<cz V by have:=(cY.mp m).1;dsimp only at this;omega);dsimp only at m;rw[m] at D;cases D;exact⟨l.2.1,by have:=l.2.2.1;dsimp only;omega⟩)) ?_;rintro _ x⟨o,rfl⟩;simp;exact⟨b.trans o,Q⟩
def KQ(a:cu h)(cl:Lx h)(hn:0<h.aw)(hw:IC h){G F:SV}(l:uR h G F u)(s1:Small u)(sm:Iz u)(rB:pE h.aw G.v/\pE h.aw F.v):aY FF 7 [ix ⟨[G.v,F.v]⟩] h (λv _=>v=dC ck):=by
 have zH:=ad.len l.2;refine aY.of zi ?_;unfold oZ;simp;refine bh.cut (λh1=>ay aR h h1/\h1.tr.get h.aw=Z (.bZ [G.v,F.v] cd 0 0)) ⟨(ay.refl a).new _ _,J⟩ ?_;rintro h1⟨g1,hU1⟩;refine bh.call (V:=λv h'=>ay aR h1 h'/\∃V:Bool,v=dC V/\(V=cd->cz u.funcs<=10/\∀f∈u.funcs,ZA f)) (aj (Zy g1.ok (l.mono a g1) s1)) ?_;rintro _ h2⟨B,V,rfl,hL⟩;have s:=g1.trans B;have I5:=B.get g1.ok hU1;have SR:=I5;simp at SR;cases V with
 |true=>simp
 |false=>
 obtain⟨O,hL⟩:=hL rfl;simp[SR];obtain⟨y,x,Pq⟩:∃y x:Int,aY FF 13 [ix ⟨[G.v,F.v]⟩] h2 (λv _=>v=ix ⟨[fc ft y,fc ft x]⟩):=by obtain⟨n,v,h',q,_,c,p,rfl,_⟩:=Kg B.ok (hw.grow a s) (l.mono a s) sm;exact⟨c,p,n,_,h',q,Q⟩
 have D':∀q,ay aR h2 q->aY FF 13 [ix ⟨[G.v,F.v]⟩] q (λv h'=>v=ix ⟨[fc ft y,fc ft x]⟩/\AK (Ex u) q v h'):=λq g=>Uf cl a hn s g hw l sm rB Pq;refine bh.call (V:=DoZ (LC (ja u.globals)) u y x h2) (aj (ae9 B.ok (l.mono a s) D')) ?_;rintro _ C⟨L,G',F',c,p,rfl,d⟩;have KX:=L.get B.ok I5;have lU:=L.ok.wf _ _ KX;have eS:=s.trans L;have n1:¬C.aw=C.aw+1:=ab
 have n2:¬h.aw=C.aw:=ab
 have n3:¬h.aw=C.aw+1:=ab
 have auj:=KX;simp at auj;simp[n1,n2,n3,auj];refine bh.cut (λk=>ay aR C k/\k.tr.get h.aw=Z (.bZ [G.v,F.v] cd 0 0)/\(di k C.aw [G'.v,F'.v])/\(di k (C.aw+1) [fc ft c,fc ft p])/\k.aw=C.aw+2) ?_ ?_;refine⟨((((ay.refl L.ok).new _ _).new _ _).put ⟨0,au n1⟩ (jZ ab)).put ⟨0,J⟩ (jZ ab),by simp[n2,n3,KX],⟨C.clock,by simp[n1,aX]⟩,⟨C.clock+1,by simp[aX]⟩,J⟩;rintro k⟨r,hU4,⟨sV,hV4⟩,⟨sA,X4⟩,nx4⟩;have qa:=eS.trans r;refine bh.call (V:=λv h'=>v=ix ⟨[fc ft y,fc ft x]⟩/\AK (Ex u) k v h') (aj (D' k (L.trans r))) ?_;rintro _ t⟨rfl,E,_⟩;have sk:=qa.trans E;have hU5:=E.get r.ok hU4;have W:=E.get r.ok hV4;have Dw:=E.get r.ok X4;have l5:=E.aw;have m1:¬C.aw=t.aw:=ab
 have m2:¬C.aw+1=t.aw:=ab
 have m3:¬h.aw=t.aw:=ab
 simp at hU5 W Dw;rcases d with⟨JY,rfl,rfl,rfl,rfl⟩|⟨rfl,rfl,H,A⟩
 .have P:(c !=0)=ck:=by simp[JY]
  simp[cM] at W;simp[P,Dw,W,m1,m2];refine bh.cut (λb=>ay aR t b) ((ay.refl E.ok).var _ _) ?_;intro b j;refine bh.call (V:=λv h'=>v=dC ck/\ay aR b h') (by simpa [cM] using QV j.ok cM cM) ?_;rintro _ m⟨rfl,I⟩;simp
 .simp[hU5,m3];refine bh.cut (λb=>ay aR t b) ((ay.refl E.ok).var _ _) ?_;intro b j;have gg6:=sk.trans j;have hgs:∀g∈u.globals,cz g.init<1000000:=λg P=>av (H.unit.gs g P)
  refine bh.call (V:=RuQ u b) (aj (aaV j.ok (l.mono a gg6) H.unit.gn hgs H.unit.fn (λf D=>⟨(H.form f D).Hv,av ((H.form f D).head.blocks)⟩))) ?_;rintro _ m⟨I,Gw,D,zs,rfl,hW7,hz7,HB,hG7⟩;have gg7:=gg6.trans I;have l6:=j.aw;have l7:=I.aw;have hU7:=I.get j.ok (j.get E.ok hU5 λh=>h);have m4:¬h.aw=m.aw:=ab
  simp[hU7,m4];refine bh.cut (λU=>ay aR m U/\di U m.aw [Gw.v,D.v]) ⟨(ay.refl I.ok).var _ _,m.clock,by simp[aX]⟩ ?_;rintro U⟨g8,sX,VD⟩;have gg8:=gg7.trans g8;have CG:Y0 u.globals:=⟨H.unit.gn,λg P=>⟨(H.unit.gs g P).1,(H.unit.gs g P).2.1⟩⟩;refine bh.call (V:=RG u.globals U) (aj (Xm (F:=F) gg8.ok (amB (l.1.mono a gg8 λ_ _ r'=>r')) CG)) ?_;rintro _ h9⟨g9,rfl⟩;have gg9:=gg8.trans g9;have o:=g8.trans g9;have hU9:=o.get I.ok hU7;have hX9:=g9.get g8.ok VD;have awa:∀c,bx D.v c->c<m.aw:=λc d=>hW7.cg I.ok d;simp;refine Xz (bt:=ja u.globals) a gg9 l.2 H.form O (hW7.cm I.ok o) hz7 (λc d=>by have:=HB c d;have:=gg6.aw;omega) (U:=h.aw) (X:=m.aw) (G:=G) (aj hU9) hX9 (λe=>av (HB _ e)) (λe=>av (awa _ e)) J J J J ?_;intro S O zs10 N w aBs aCc D10;have k1:bU S 1 h.aw:=N.at J;have k3:bU S 3 C.aw:=N.at J;have k4:bU S 4 (C.aw+1):=N.at J;have k6:bU S 6 m.aw:=N.at J;have X:∀c,c<b.aw->¬bx D.v c:=λc d e=>av (HB c e)
  have G59:=((j.trans I).trans o);have aui:=w.get o.ok hU9 (X _ ab);have aBq:=w.get o.ok (G59.get E.ok W λh=>h) (X _ ab);have aAQ:=w.get o.ok (G59.get E.ok Dw λh=>h) (X _ ab);have auo:=w.get o.ok hX9 (λe=>av (awa _ e));simp at aui auo;simp[k1,k3,k4,k6,aui,aBq,aAQ,auo];have G3:ay aR C O:=((r.trans E).trans G59).trans' w ai λc d e=>X c ab e;obtain⟨ws,hws,R⟩:=QM w.ok aBs (M:=b.aw) (λb' q=>HB b' q) aCc (λi z f p b'=>by obtain⟨n0,ys,many,hM,r'⟩:=D10 i z f p b';exact⟨n0,ys,many,av o.aw,r'⟩)
  have T:amo (LC (ja u.globals)) u.globals u.funcs O G' F' c p:=by rcases A with A|⟨e1,e2,Hx,hs,M⟩;exact jZ A;exact kd ⟨e1,e2,Hx,hs aR O G3 (λ_ h=>h.elim),M⟩
  have V10:uR O Gw D ⟨u.globals,ws⟩:=⟨hG7 (bx D.v) O (o.cm.trans w) (λc d=>jZ d),hws aR O (.refl w.ok) (λ_ h=>h.elim)⟩;refine bh.call (V:=Uv O) (aj (Zj (G0:=G) (F0:=F) w.ok T R V10 H.unit.gn hgs H.unit.fn)) ?_;rintro _ h11⟨g11,rfl⟩;simp
end Go.Proofs.YtdhnndleffachaaGreatDoor
