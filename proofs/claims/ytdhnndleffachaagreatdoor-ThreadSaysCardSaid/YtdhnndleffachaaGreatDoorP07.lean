/- Parts of the proof. -/
import Derived.Test.YtdhnndleffachaaGreatDoorP06
import Derived.Test.YtdhnndleffachaaGreatDoorP03
import Derived.Test.YtdhnndleffachaaGreatDoorP05
open Classical renaming byContradiction->ix
open Go renaming Value->aa,stepG->cf
open List.Sublist renaming append->abQ,refl->abP
open Nat renaming le_succ->hQ,lt_of_le_of_lt->Lt
open Ne renaming symm->a7
open Option.some renaming inj->bI
open Option renaming some->Z,none->K,map_eq_some_iff->cQ
open Bool renaming false->b9,true->cd
open List renaming length->Y,drop_eq_getElem_cons->fj,drop_length->cG,eq_nil_iff_forall_not_mem->oL,filter_append->e6,filter_cons_of_neg->bO,filter_cons_of_pos->db,filter_eq_nil_iff->ns,filter_eq_self->fA,find?_some->Aa,flatMap_cons->ei,getD->P8,getElem?_inj->ga,getElem?_mapIdx->bn,getElem?_range->lN,getElem?_zip_eq_some->fi,getElem_inj->ib,length->dk,length_cons->kb,length_erase_of_mem->rA,length_set->lj,length_zip->tl,map_append->aW,map_congr_left->bf,map_drop->Xm,map_fst_zip->P4,map_id->rk,map_map->gN,map_reverse->Pz,map_set->dr,map_snd_zip->sc,map_take->Xc,mem_append_left->ba,mem_append_right->aT,mem_cons->bd,mem_flatMap->a8,mem_of_find?_eq_some->lk,mem_reverse->jT,nodup_cons->kI,nodup_range->ym,of_mem_zip->b8,pairwise_cons->ob,pairwise_map->gw,perm_middle->Po,range->aA,replicate->an,take_append_drop->ki
open Go.Value renaming slice->c6,bool->dd,pointer->dB,int->dC,string->eT,agg->eU,int->aL
open Go.IntKind renaming i64->ef
open Or renaming inl->fc,inr->ft
set_option linter.all false
set_option maxHeartbeats 1000000
namespace Go.Proofs.YtdhnndleffachaaGreatDoor
open Go.AI
variable{B B0 E:SV}{F H L d i j k n n0 V N t:Nat}{u bs g W:List GB}{m:bJ->Env->aB->Prop}{T X x:GB}{a bU p rg to1:Int}{e:Env}{P l:List (Int×(Bool×Int))}{h1 U:aB}{name:ByteArray}{out:List Bool}{pk to:List Int}{I:List (List Int)}{ps:List GP}{row:List (Bool×Int)}{v:Bool×Int}{o:List SV}{y:YB}{ys:List YB}
def aqf(h1:aB)(S:Nat)(bs:List GB)(m:Nat)(e:Env)(a:aB):Prop:=
 ∃b:Nat,b=m/\b<=Y bs/\cg e 1 S/\bz e 3 ((b:Int)-1)/\az aV h1 a/\∀x,b<=x->wP bs x
def aqg(bs:List GB)(h:aB)(v:aa)(b:aB):Prop:=az aV h b/\((v=dC ef (-1)/\∀x,wP bs x)\/∃(b t:Nat) (B T:GB),v=dC ef b/\dv bs b t B T)
def U1{C h:aB}(D:cy C)(f:az aV C h){name:ByteArray}{p r:Int}(A:mm C B bs)(E:EB bs):aY FF 40 [eU ⟨aC name p r B⟩] h (aqg bs h):=by
 have C:=ae.len A;have z:=E.n50;have z:=f.ok;refine aY.of Db ?_;unfold uk;have c:=bZ ((Y bs:Int)-1) J J;simp[aC,C,c];refine aN.cut (λh1=>az aV h h1/\c_ h1 h.ax (aC name p r B)) ⟨(az.refl z).new _ _,0,by simp[aC,C]⟩ ?_;rintro h1⟨z,c,O⟩;refine aN.loop (aqf h1 h.ax bs) ?_ (n:=Y bs) ⟨Y bs,Q,J,ag,ag,.refl z.ok,λx hx t X T c=>aw ((cR.mp c.hb).1)⟩;rintro m e i⟨b,rfl,y,I,y,g,H⟩;have bC:=g.ok;have k:=(f.trans z).trans g;have o:=g.get z.ok O;simp[aC] at o;unfold qL;by_cases f:b=0
 subst f;simp[y];exact⟨z.trans g,fc ⟨Q,λx=>H x J⟩⟩
 .obtain⟨c,rfl⟩:∃c,b=c+1:=⟨b-1,J⟩;have f:bX e 3=dC ef (c:Int):=by rw[y];congr 1;omega
  have y:=bZ ((c:Int)-1) J J;have⟨X,b⟩:=aR bs c;have O:=cK b;obtain⟨q,Dr,q,dY,q,_,⟨P,L,T,rfl,M,M,M⟩,oB,w⟩:=ae.later D A b;have j:=w i k 2 4 ai;simp[-ay] at j;rw[dY,C] at o;have w:(0:Int)<=c:=J
  have next:(∀u U V,¬dv bs c u U V)->∀x,c<=x->wP bs x:=λs x hx=>by by_cases e:x=c;rw[e];exact s;exact H x J
  have s:∀(G:Env)(S:aB),cg G 1 h.ax->bz G 3 ((c:Int)-1)->az aV h1 S->(∀u U V,¬dv bs c u U V)->∃m,m<c+1/\aqf h1 h.ax bs m G S:=λG S G h F S=>⟨c,J,c,Q,J,G,h,F,next S⟩;have q:c<Y bs:=J
  rcases E.kind X O with⟨N,G⟩|⟨N,t,G⟩|⟨N,t,u,G,_⟩;simp[I,f,w,o,aD o,q,j,N,y,aJ,aK,-ay];exact s _ _ (av I) ag ((g.var _ _).tick) (λu U V d=>by have:=d.k2;have:=d.hb;rw[b] at this;cases this;omega)
  .obtain⟨S,S⟩:=E.to X O t (by rw[G];simp);obtain⟨u,rfl⟩:∃u:Nat,t=u:=⟨t.toNat,J⟩;have S:u<Y bs:=J
   have h:T.l=1:=by have:=ae.len M;rw[G] at this;simpa using this
   obtain⟨O,O,O,z7,_,_,O,oT,F⟩:=ae.later D M (i:=0) (x:=(u:Int)) (by rw[G];rfl);cases O;have M:=F i k 0 1 ai;simp[-ay] at M;have⟨V,hV⟩:=aR bs u S;obtain⟨O,O,O,O,_,_,⟨P2,F,F,rfl,sP2,F,F⟩,F,F⟩:=ae.later D A hV;rw[dY] at O;cases O;have ZE:=F i k 0 1 ai;simp[-ay] at ZE;have hP2:=ae.len sP2;rw[z7,h] at j;have O:=k.bU oT;have HU:=k.bU oB;have oS:=bC.bU o;by_cases e1:u=c
   subst e1;simp[I,f,w,o,aD o,q,j,M,N,y,O,aJ,cw,bh,aK,-ay];exact s _ _ (av I) ag ((g.var _ _).tick) (λa U V d=>by have:=d.hb;rw[b] at this;cases this;have:=d.to;rw[G] at this;simp at this;exact d.ne J);have Nh:((u:Int) !=c)=cd:=by simp;omega
   rcases F:V.aP with _|⟨h,l⟩
   .have amz:P2.l=0:=by rw[hP2,F];rfl
    simp[I,f,w,o,aD o,q,S,j,M,ZE,amz,N,Nh,O,HU,oS,aJ,cw,bh,aK,-ay];refine ck.cut (λh=>az aV i h) ((az.refl bC).var _ _).tick ?_;intro h g2;refine ck.call (V:=λv i=>az aV h i/\∃L:SV,v=L.v/\bx encI h.ax i L.v (aI bs u)) (by simpa [aC,dY,C] using tu g2.ok (name:=name) (p:=p) (r:=r) (A.mono D (k.trans g2)) J (λx hx=>aw (E.two hx)) (u:Int)) ?_;rintro _ D⟨D,L,rfl,A⟩;have C:L.l=Y (aI bs u):=by have⟨a,k,e,_⟩:=id A.sl;simp at e;exact e.2.1
    have A:=(g.trans g2).trans D;by_cases D:Y (aI bs u)=1;simp[C,D,f];exact⟨z.trans A,ft ⟨c,u,X,V,Q,b,hV,N,G,e1,F,J⟩⟩
    .have k:((Y (aI bs u):Int)==1)=b9:=vI J;simp[C,D,k,f,y];exact s _ _ (av I) ag A (λa U W d=>by
      have:=d.hb;rw[b] at this;cases this;have:=d.to;rw[G] at this;simp at this;have z:u=a:=J
      subst z;have h:(c:Int)∈aI bs u:=cu.2 ⟨c,Q,X,b,by rw[G];simp⟩;have:=d.one;have:=List.length_pos_of_mem h;omega)
   have⟨n,h⟩:∃n,n=Y l+1:=⟨_,Q⟩;have amz:P2.l=n:=by rw[hP2,F,h];rfl
   have h:¬n=0:=J
   have k:((n:Int)==0)=b9:=vI J;simp[I,f,w,o,aD o,q,S,j,M,ZE,amz,N,y,Nh,h,k,O,HU,oS,aJ,cw,bh,aK,-ay];exact s _ _ (av I) ag ((g.var _ _).tick) (λa U W d=>by
    have:=d.hb;rw[b] at this;cases this;have:=d.to;rw[G] at this;simp at this;have z:u=a:=J
    subst z;have:=d.ht;rw[hV] at this;cases this;have:=d.ph;rw[F] at this;cases this)
  simp[I,f,w,o,aD o,q,j,N,y,aJ,aK,-ay];exact s _ _ (av I) ag ((g.var _ _).tick) (λu U V d=>by have:=d.k2;have:=d.hb;rw[b] at this;cases this;omega)
def iI(t b:Int)(e:Int×(Bool×Int)):Int×(Bool×Int):=if e.1=t then(b,e.2) else e
def JnE(h1:aB)(E:SV)(t c:Int)(P:List (Int×(Bool×Int)))(e:Env)(m:Nat)(b:Env)(a:aB):Prop:=
 ∃(j:Nat) (f:List (Int×(Bool×Int))),m=Y P-j/\j<=Y P/\aH ([10]++(aA 18).map (· +54)) e b/\bz b 10 j/\az (λb=>fy E=Z b) h1 a/\eo fG a E f/\f=(P.take j).map (iI t c)++P.drop j
def Ye(y:cy h1){t b:Int}(A:eo fG h1 E P)(i:Y P<1000000)(X:bz e 1 b)(U:bz e 5 t)(w:bX e 9=E.v)(a:bz e 10 0)(C:∀W p,aH ([10]++(aA 18).map (· +54)) e W->az (λf=>fy E=Z f) h1 p->eo fG p E (P.map (iI t b))->m (.exit 4) W p):aN FF (.loop j1) e h1 m:=by
 have O:=A.len;refine aN.loop (JnE h1 E t b P e) ?_ (n:=Y P) ⟨0,P,Q,J,aH.refl _ _,a,.refl y,A,ag⟩;rintro L W p⟨j,z,rfl,v,u,N,g,c,o⟩;have l:=u.at (t:=1) X;have T:=u.at (t:=5) U;have q:=u.at (t:=9) w;have a:Y z=Y P:=by rw[o];simp;omega
 simp at q;rw[O] at q;unfold j1;by_cases w:j<Y P
 .have F:=bZ ((j:Int)+1) J J;have⟨x,D⟩:=aR P j w;have⟨H,V⟩:=zd (f:=iI t b) D o;have⟨r,cE,k,S,I,M,_,a,A,U⟩:=c.el H;have S:=A 0 1 ai;simp[-ay] at S;rw[I] at q;by_cases s:x.1=t
  .have G:=a 0 1 ai;simp at G;have L:((x.1:Int)==t)=cd:=by simp[s]
   simp[l,T,q,N,w,S,s,M,G,F,-ay];have i:=aX (off:=j*3) (vs:=[dC ef b]) g.ok M;have M:=U (iI t b x) 0 [dC ef b] ag (by simp[bg,iI,s]) (put p r (j*3) cE [dC ef b] k) ⟨p.clock,ag⟩;refine⟨Y P-(j+1),J,j+1,z.set j (iI t b x),Q,w,?_,ag,g.trans (i.cX λf _ e=>by rw[e];exact cj I),M,V⟩
   exact au
  .have L:((x.1:Int)==t)=b9:=vI s;have h:z.set j (iI t b x)=z:=by
    have:iI t b x=x:=by unfold iI;rw[bM s]
    rw[this];exact ie H
   rw[h] at V;simp[l,T,q,N,w,S,s,L,F,-ay];refine⟨Y P-(j+1),J,j+1,z,Q,w,?_,ag,g,c,V⟩
   exact au
 .have:j=Y P:=J
  subst this;rw[mI,cG,ye] at o;simp[q,N];refine C _ _ ?_ g (by rw[<-o];exact c)
  exact au
def uB(bs:List GB)(t b:Int)(i:Nat)(p:GP):GP:=⟨p.dst,fZ ((dJ bs i p.row).map (iI t b)) (Y bs)⟩
structure JN(h0 h1:aB)(n0 F H:Nat)(name:ByteArray)(p r:Int)(B0 B:SV)(bs:List GB)(ys:List YB):Prop where
 cS:cy h0
 g:az aV h0 h1
 hB:mm h0 B0 bs
 E:EB bs
 l0:h0.ax<=n0
 hn:n0<=h1.ax
 W:FZ h1 n0 B ys
 len:Y ys=Y bs
 hF:c_ h1 F (aC name p r B0)
 hH:c_ h1 H (aC name p r B)
 oF:¬cm B ys F
 oH:¬cm B ys H
section
variable{C h1 A:aB}{n0 F H:Nat}{name:ByteArray}{p r:Int}{B0 B:SV}{bs:List GB}{ys D:List YB}
def JN.ax(w:JN C h1 n0 F H name p r B0 B bs ys)(T:cM h1 A n0 B ys B D)(s:Y D=Y ys):JN C A n0 F H name p r B0 B bs D:=by have⟨N,o⟩:=w.hF;have⟨q,m⟩:=w.hH;have f:=w.g.ok;have G:=f.wf _ _ o;have I:=f.wf _ _ m;exact⟨w.cS,w.g.trans' T.g aj (λc a ⟨l,e⟩=>by have:=w.W.new l c e;have:=w.l0;omega),w.hB,w.E,w.l0,by have:=w.hn;have:=T.g.ax;omega,T.w,s.trans w.len,⟨N,T.g.get f o w.oF⟩,⟨q,T.g.get f m w.oH⟩,λe=>(T.s _ e).elim w.oF J,λe=>(T.s _ e).elim w.oH J⟩
def awZ(h1:aB)(n0:Nat)(B:SV)(ys:List YB)(i:Nat)(y:YB)(P:GP->GP)(e:Env)(m:Nat)(q:Env)(A:aB):Prop:=
 ∃(j:Nat) (ps:List (GP×SV)),m=Y y.ps-j/\j<=Y y.ps/\aH ([8,9,10]++(aA 60).map (· +31)) e q/\bz q 8 j/\cM h1 A n0 B ys B (ys.set i {y with ps:=ps})/\Y ps=Y y.ps/\∀(k:Nat)(q c:GP×SV),y.ps[k]?=Z q->ps[k]?=Z c->(k<j->c.1=P q.1)/\(j<=k->c=q)
def acm(w:JN C h1 n0 F H name p r B0 B bs ys)(q:ys[i]?=Z y)(D:bs[i]?=Z y.g){t b:Int}(X:bz e 1 b)(G:cg e 2 F)(c:bz e 5 t)(E:cg e 6 H)(M:bz e 7 i)(z:bz e 8 0)(C':∀s A ps,aH ([8,9,10]++(aA 60).map (· +31)) e s->cM h1 A n0 B ys B (ys.set i {y with ps:=ps})->ps.map (·.1)=y.g.aP.map (uB bs t b i)->m (.exit 2) s A):aN FF (.loop j2) e h1 m:=by
 have l:=w.E.n50;have f:=w.g.ok;have hi:=(cR.mp q).1;have dW:i<Y bs:=(cR.mp D).1;have Hw:=ae.len w.hB;have P:=w.W.A.len;have g:Y y.ps<100000:=by have:=w.E.pl y.g (cK D);simpa [YB.g] using this
 have O:ys.set i {y with ps:=y.ps} =ys:=ie q;refine aN.loop (awZ h1 n0 B ys i y (uB bs t b i) e) ?_ (n:=Y y.ps) ⟨0,y.ps,Q,J,aH.refl _ _,z,by rw[O];exact .refl w.W f,Q,λi q' o a b=>⟨λh=>J,λ_=>by rw[a] at b;cases b;rfl⟩⟩;rintro q s A⟨j,ps,rfl,s,u,q8,T,z,Hq⟩;have l:=w.ax T ag;have I:=T.g.ok;have g:=l.g;have q1:=u.at (t:=1) X;have q2:=u.at (t:=2) G;have S:=u.at (t:=5) c;have q6:=u.at (t:=6) E;have q7:=u.at (t:=7) M;have⟨N,O⟩:=l.hF;obtain⟨M,M⟩:=l.hH;have X:(ys.set i {y with ps:=ps})[i]?=Z {y with ps:=ps} :=by rw[fq,bH Q,bH hi]
 have V:=l.W.at X;have fe:y.P.l=Y y.ps:=by have:y.P.l=Y ps:=V.P.len;rw[this,z]
 obtain⟨s,G,n,d,dY,q,E,_,G,_⟩:=l.W.A.el X;have d:=G 0 1 ai;simp[-ay] at d;simp[aC] at O M;rw[dY,P] at M;rw[fe] at d;unfold j2;by_cases E:j<Y y.ps
 .have wj:=bZ ((j:Int)+1) J J;have⟨q',P⟩:=aR y.ps j E;have⟨o,U⟩:=aR ps j;have n:=(Hq j q' o P U).2 (fE _);subst n;have s:y.g.aP[j]?=Z o.1:=by simp[YB.g,P]
  have f:=w.E.rows i y.g D o.1 (cK s);have f:=h_ bs i;obtain⟨n,G,G,TW,_,_,⟨n,n,f,rfl,G,c,f⟩,oG,f⟩:=ae.later w.cS w.hB D;have n:=f A g 0 1 ai;simp[-ay] at n;obtain⟨c,c,c,D,_,_,⟨f,rfl,sA0⟩,oQ,c⟩:=ae.later w.cS G s;have f:=c A g 0 2 ai;simp[-ay] at f;have c:=ae.len G;have G:Y y.g.aP=Y y.ps:=by simp[YB.g]
  rw[G] at c;rw[D,c] at n;rw[TW,Hw] at O;obtain⟨bP,cP,oP,s,gy,sJ,D,dM,s,eI⟩:=V.P.el U;have D:y.P.a=Z ⟨bP,0,K⟩:=gy;rw[D] at d;have oF:=I.bU O;have oH:=I.bU M;have V:=I.bU sJ;have s:=I.bU q;have c:=g.bU oG;have G:=g.bU oQ;have Jj:i<Y ys:=hi;have dF:=w.len;simp[q1,q2,S,q6,q7,q8,O,M,aD O,aD M,E,Jj,dW,d,n,f,oF,oH,V,s,c,G,aK,aC,-ay];have s:=bk I;have hFt:=s.get I O;have hHt:=s.get I M;have hBt:=s.get I q;have Xw:=s.get I sJ;have f:(tick A).ax=A.ax:=Q;generalize tick A=q at*;have n:=g.trans s;have O:Y (dJ bs i o.1.row)<1000000:=by unfold dJ;rw[tl];omega
  refine ck.call (V:=λv A=>az aV q A/\∃L:SV,v=L.v/\bx fG q.ax A L.v (dJ bs i o.1.row)) (by simpa [aC,TW,Hw] using vM s.ok (name:=name) (p:=p) (r:=r) (dst:=o.1.dst) (w.hB.mono w.cS n) (sA0.mono w.cS n λ_ _ h=>h) J (λx g=>aw (w.E.two g)) i J) ?_;rintro _ c⟨G,L,rfl,g⟩;simp;refine Ye (E:=L) (t:=t) (b:=b) G.ok (du g) O (av q1) (av S) ag ag ?_;intro f W V S A4;have k2:=V.at (t:=2) (aq q2);have k6:=V.at (t:=6) (aq q6);have k7:=V.at (t:=7) (aq q7);have k8:bX f 8=dC ef j:=V.at (aq q8);have k9:bX f 9=L.v:=V.at ag;have n:∀c,fy L=Z c->A.ax<=c:=λc e=>aw (g.of (jt (du g) e))
  have f:az aV q W:=G.trans' S aj (λc hc e=>aw (n c e));have G:=f.get s.ok hFt;have S:=f.get s.ok hHt;have g:=f.get s.ok hBt;have hP4:=f.get s.ok Xw;have g:=(l.W.cr I s).cr s.ok f;have n:=g.at X;obtain⟨n,n,n,l,n,l,_,_,Q0,_⟩:=g.A.el X;rw[dY] at n;cases n;have n:=Q0 0 1 ai;simp[-ay] at n;rw[D,fe] at n;have oH4:=f.ok.bU S;have oF4:=f.ok.bU G;have YF:=f.ok.bU l;have stH:=f.ok.st _ _ _ _ _ S;have stB:=f.ok.st _ _ _ _ _ l;have anv:Y (dJ bs i o.1.row |>.map (iI t b))<1000000:=ak O
  simp[k2,k6,k7,k8,k9,G,S,aD G,aD S,Jj,n,oF4,oH4,YF,aK,-ay];have G:=bk f.ok;have hH5:=G.get f.ok S;have hB5:=G.get f.ok l;have hP5:=G.get f.ok hP4;have S:=A4.grow f.ok G aj;have O:(tick W).ax=W.ax:=Q;have O:(tick W).clock=W.clock+1:=Q;generalize tick W=h5 at*;refine ck.call (V:=λv A=>az aV h5 A/\∃l:SV,v=l.v/\bx cH h5.ax A l.v (fZ ((dJ bs i o.1.row).map (iI t b)) (Y bs))) (by simpa [Hw] using zr G.ok S.sl anv (Y bs) J) ?_;rintro _ l⟨n,S,rfl,O⟩;have hH6:=n.get G.ok hH5;have hB6:=n.get G.ok hB5;have OR:=n.get G.ok hP5;have qZ:=dM 1 1 ai;simp at qZ;have W6:=(g.cr f.ok G).cr G.ok n;obtain⟨g,g,g,g,g,ai5,_,_,ajt,_⟩:=W6.A.el X;rw[dY] at g;cases g;have g:=ajt 0 1 ai;simp[-ay] at g;rw[D,fe] at g;simp[hH6,stH,stB,hB6,Jj,E,OR,qZ,k8,wj,g,aD hH6,-ay];have D:=aX (off:=j*2+1) (vs:=[S.v]) n.ok OR;simp at D;have g:=eI (uB bs t b i o.1,S) 1 [S.v] ag (by simp[bg,uB]) (put l bP (j*2+1) cP [S.v] oP) ⟨l.clock,ag⟩;simp at g;have CA:az aV A l:=((s.trans f).trans G).trans n;have l:=((s.trans f).trans G).ax;have l:=T.row (j:=j) w.hn X U (p':=(uB bs t b i o.1,S)) (CA.cr.trans (D.cX λc _ e=>fc ⟨.P,fc Q,by rw[e];exact cj gy⟩)) g ((du O).go n.ok D λc hc e=>by have:=O.of (jt (du O) e);have:=I.wf _ _ sJ;omega) (λc e=>ft (aw (O.of (jt (du O) e))))
  rw[wN] at l;refine⟨Y y.ps-(j+1),J,j+1,ps.set j (uB bs t b i o.1,S),Q,E,?_,ag,ak l,av z,λk a c h1 q=>?_⟩
  .repeat (refine aH.set ?_)
   refine aH.trans ?_ (V.cX)
   exact au
  rw[fq] at q;by_cases e:j=k;subst e;rw[bH Q,bH J] at q;cases q;rw[P] at h1;cases h1;exact⟨λ_=>rfl,λh=>J⟩;rw[bM e] at q;have⟨f,O⟩:=Hq k a c h1 q;exact⟨λh=>f J,λh=>O J⟩
 .have:j=Y y.ps:=J
  subst this;simp[q6,q7,q8,M,aD M,hi,d,-ay];refine C' _ _ ps ?_ T (Bc λk=>?_)
  .exact au
  rw[gu,gu];simp only[YB.g,gu];rcases Bb k (Y y.ps) with S|S;have⟨q',P⟩:=aR y.ps k S;have⟨o,U⟩:=aR ps k (by rw[z];exact S);rw[P,U];simp only[zz];rw[(Hq k q' o P U).1 S];rw[xE S,xE (by rw[z];exact S)];rfl
def sZ(bs:List GB)(t b:Int)(i:Nat)(x:GB):GB:= {x with aP:=x.aP.map (uB bs t b i)}
def aw0(h1:aB)(n0:Nat)(B:SV)(bs:List GB)(ys:List YB)(t b:Int)(e:Env)(m:Nat)(z:Env)(A:aB):Prop:=
 ∃(i:Nat) (D:List YB),m=Y ys-i/\i<=Y ys/\aH ([7,8,9,10]++(aA 67).map (· +24)) e z/\bz z 7 i/\cM h1 A n0 B ys B D/\Y D=Y ys/\∀(k:Nat)(y z:YB),ys[k]?=Z y->D[k]?=Z z->(k<i->z.g=sZ bs t b k y.g)/\(i<=k->z=y)
def acn(w:JN C h1 n0 F H name p r B0 B bs ys)(c:ys.map YB.g=bs){t b:Int}(s:bz e 1 b)(g:cg e 2 F)(f:bz e 5 t)(z:cg e 6 H)(h:bz e 7 0)(d:∀O A D,aH ([7,8,9,10]++(aA 67).map (· +24)) e O->cM h1 A n0 B ys B D->D.map YB.g=bs.mapIdx (sZ bs t b)->m (.exit 0) O A):aN FF (.loop j3) e h1 m:=by
 have G:=w.E.n50;have G:=w.W.A.len;have M:=w.len;refine aN.loop (aw0 h1 n0 B bs ys t b e) ?_ (n:=Y ys) ⟨0,ys,Q,J,aH.refl _ _,h,.refl w.W w.g.ok,Q,λi q h a b=>⟨λh=>J,λ_=>by rw[a] at b;cases b;rfl⟩⟩;rintro M O A⟨i,D,rfl,O,u,I,T,W,M⟩;have S:=w.ax T W;have⟨O,o⟩:=S.hH;have O:=u.at (t:=1) s;have l:=u.at (t:=2) g;have g:=u.at (t:=5) f;have N:=u.at (t:=6) z;simp[aC] at o;rw[G] at o;unfold j3;by_cases s:i<Y ys
 .have w:=bZ ((i:Int)+1) J J;have⟨y,f⟩:=aR ys i s;have⟨z,G⟩:=aR D i;have j:=(M i y z f G).2 (fE _);subst j;have j:bs[i]?=Z z.g:=by rw[<-c,gu,f];rfl
  simp[N,I,o,aD o,s,-ay];refine acm S (t:=t) (b:=b) G j (av O) (av l) (av g) (av N) (av I) ag ?_;intro j g ps V g O;have S:bX j 7=dC ef i:=V.at (aq I);simp[S,w];refine⟨Y ys-(i+1),J,i+1,D.set i {z with ps:=ps},Q,s,?_,ag,T.trans g,av W,λk a w h1 s=>?_⟩
  .repeat (refine aH.set ?_)
   refine aH.trans ?_ (V.cX)
   exact au
  rw[fq] at s;by_cases e:i=k;subst e;rw[bH Q,bH J] at s;cases s;rw[f] at h1;cases h1;exact⟨λ_=>by simp only[YB.g,sZ,O],λh=>J⟩;rw[bM e] at s;have⟨O,g⟩:=M k a w h1 s;exact⟨λh=>O J,λh=>g J⟩
 .have:i=Y ys:=J
  subst this;simp[N,I,o,aD o,-ay];refine d _ _ D ?_ T (Bc λk=>?_)
  .exact au
  rw[gu,bn,<-c,gu];rcases Bb k (Y ys) with s|s;have⟨y,f⟩:=aR ys k s;have⟨z,G⟩:=aR D k;rw[f,G];simp only[zz];rw[(M k y z f G).1 s,c];rw[xE s,xE J];rfl
end
structure VZ(h:aB)(B:SV)(ys:List YB):Prop where
 A:eo eH h B ys
 r:∀y∈ys,BZ h y
 no:∀y∈ys,∀l c,y.loc l=Z c->fy B≠Z c
def FZ.vz{h:aB}(w:FZ h n0 B ys):VZ h B ys:=⟨w.A,w.r,λy m l c e o=>by have⟨i,f⟩:=iF m;have:=w.uO K (Z (i,l)) c o (by rw[cJ f];exact e);cases this⟩
def VZ.view{h:aB}{B:SV}{ys:List YB}(w:VZ h B ys):mm h B (ys.map YB.g):=w.A.view ag λi r b a c=>by simp[a] at c;subst c;exact(w.r r (cK a)).view
def VZ.cr{h a:aB}{B:SV}{ys:List YB}(w:VZ h B ys)(c:cy h)(g:az aV h a):VZ a B ys:=⟨w.A.cr c g,λy f=>(w.r y f).cr c g,w.no⟩
def VZ.set{h f:aB}{B:SV}{ys:List YB}{i:Nat}{y:YB}(w:VZ h B ys)(m:cy h)(g:az (λc=>fy B=Z c) h f)(A:eo eH f B (ys.set i y))(z:BZ h y)(no:∀l c,y.loc l=Z c->fy B≠Z c):VZ f B (ys.set i y):=by have a:∀ {x:YB},BZ h x->(∀l c,x.loc l=Z c->fy B≠Z c)->BZ f x:=λf n=>f.go m g λc l o e=>n l c e o;refine⟨A,λx f=>?_,λx f=>?_⟩<;>rcases List.mem_or_eq_of_mem_set f with f|rfl;exact a (w.r x f) (w.no x f);exact a z no;exact w.no x f;exact no
def j7(n t:Nat):List Nat:=(aA n).filter λi=> !decide (i=t)
def Yr(n t:Nat):j7 (n+1) t=j7 n t++(if n=t then [] else [n]):=by unfold j7;rw[List.range_succ,e6];by_cases e:n=t<;>simp[e]
def JnL(h1:aB)(H t n:Nat)(e:Env)(m:Nat)(a:Env)(b:aB):Prop:=
 ∃(j:Nat) (L:SV),m=n-j/\j<=n/\aH ([11,12]++(aA 14).map (· +115)) e a/\bX a 11=L.v/\bz a 12 j/\az aV h1 b/\bx encI h1.ax b L.v (nI (j7 j t))
def ack(F:cy h1){p r:Int}{a:Nat}(b:dR h1 H (aC name p r B) a)(y:B.l=n)(A:n<1000000)(U:bz e 5 t)(T:cg e 6 H)(O:bX e 11=cU.v)(N:bz e 12 0)(D:∀w i (L:SV),aH ([11,12]++(aA 14).map (· +115)) e w->bX w 11=L.v->az aV h1 i->bx encI h1.ax i L.v (nI (j7 n t))->m (.exit 6) w i):aN FF (.loop jZ) e h1 m:=by
 refine aN.loop (JnL h1 H t n e) ?_ (n:=n) ⟨0,cU,Q,J,aH.refl _ _,O,N,.refl F,fc ⟨Q,Q⟩⟩;rintro a w i⟨j,L,rfl,v,u,I,G,g,f⟩;have V:=g.ok;have W:=u.at (t:=5) U;have M:=u.at (t:=6) T;have o:=g.get F b;simp[aC] at o;rw[y] at o;unfold jZ;by_cases s:j<n
 .have S:=bZ ((j:Int)+1) J J;have q:=Yr j t;by_cases b:j=t
  .rw[bH b,ye] at q;subst b;simp[W,M,G,o,aD o,s,S,-ay];refine⟨n-(j+1),J,j+1,L,Q,s,?_,av I,ag,g,by rw[q];exact f⟩
   exact au
  .rw[bM b] at q;have C:((j:Int) !=t)=cd:=by simp;omega
   have b:Y (nI (j7 j t))<=j:=by unfold nI j7;rw[yd];exact wV (NN _ _) ag
   have T:¬(j:Int)=t:=J
   simp[W,M,I,G,o,aD o,s,C,-ay];have z:=aZ V [dC ef j] 0;have C:=f.grow V z aj;have X:bj encI (aM i [dC ef j] 0) (c6 (Z ⟨i.ax,0,K⟩) 1 1) [(j:Int)]:=dx (E:=encI) (x:=(j:Int)) (bY _ _ _);have F:(aM i [dC ef j] 0).ax=i.ax+1:=Q;have c:=g.ax;obtain⟨x,x,y,h,T,_⟩:=fI (bytes:=8) z.ok (z:=[dC ef 0]) rfl C X J ai J;obtain⟨d,rfl⟩:=bx.Fj h;refine df (ak y) ?_;simp[G,S];refine⟨n-(j+1),J,j+1,d,Q,s,?_,ag,ag,(g.trans z).trans' T aj (λc A e=>aw (f.of e)),by rw[q];simpa [nI] using h⟩
   exact au
 .have:j=n:=J
  subst this;simp[M,G,o,aD o,-ay];refine D _ _ L ?_ (av I) g f
  exact au
def iW(bs:List GB)(b t:Nat)(T:GB):List GB:=bs.mapIdx λi x=>
 if i=t then {sZ bs t b i x with kind:=1,on:=(b9,0),to:=[]} else if i=b then⟨(sZ bs t b i x).aP,x.list++T.list,T.kind,T.on,T.to⟩ else sZ bs t b i x
def RM{q h:aB}(A:cy q)(d:az aV q h){name:ByteArray}{p r:Int}{b t:Nat}(z:mm q B0 bs)(E:EB bs)(g:∀b∈bs,Hb b)(c:dv bs b t X T)(EJ:EB (iW bs b t T))(ZJ:∀x∈iW bs b t T,Hb x)(H:Y X.list+Y T.list<1000000):aY FF 42 [eU ⟨aC name p r B0⟩,dC ef b] h (js name p r (bu (iW bs b t T) (j7 (Y bs) t)) h):=by
 have H:=d.ok;have D:=E.n50;have D:=ae.len z;have V:¬h.ax=h.ax+1:=J
 have yE:=(cR.mp c.ht).1;have oi:=(cR.mp c.hb).1;obtain⟨y,Dr,y,y,_,_,⟨G,G,G,rfl,v,v,v⟩,n,n⟩:=ae.later A z c.hb;have a:G.l=1:=by have:=ae.len v;rw[c.to] at this;simpa using this
 obtain⟨G,G,G,G,_,_,f,s,s⟩:=ae.later A v (i:=0) (x:=(t:Int)) (by rw[c.to];rfl);cases f;refine aY.of BI ?_;unfold ss;have v:az aV h (aM (aM h [eT name,dC ef p,dC ef r,c6 B0.a B0.l B0.c] 0) [eT ⟨⟨[]⟩⟩,dC ef 0,dC ef 0,c6 K 0 0] 0):=((az.refl H).new _ _).new _ _;have H:(aM (aM h [eT name,dC ef p,dC ef r,c6 B0.a B0.l B0.c] 0) [eT ⟨⟨[]⟩⟩,dC ef 0,dC ef 0,c6 K 0 0] 0).tr.get h.ax=Z (.ch (aC name p r B0) b9 0 0):=by simp[aC,V]
 have f:(aM (aM h [eT name,dC ef p,dC ef r,c6 B0.a B0.l B0.c] 0) [eT ⟨⟨[]⟩⟩,dC ef 0,dC ef 0,c6 K 0 0] 0).tr.get (h.ax+1)=Z (.ch [eT ⟨⟨[]⟩⟩,dC ef 0,dC ef 0,c6 K 0 0] b9 0 0):=ag
 simp[aC,V];generalize aM (aM h _ 0) _ 0=h1 at*;have u:=d.trans v;have i:=n h1 u 5 1 ai;have n:=s h1 u 0 1 ai;simp[-ay] at i n;rw[G,a] at i;have a:=H;simp[aC] at a;rw[y,D] at a;simp[y,D,a,aD a,oi,i,n,-ay];refine bm.call (V:=js name p r bs h1) (by simpa [aC,y,D] using tw A u (name:=name) (p:=p) (r:=r) z g J) ?_;rintro _ a⟨i,B,ys,rfl,W2,g,g⟩;have s:Y ys=Y bs:=by have:=congrArg dk g;simpa using this
 have n:=i.get v.ok H;have C:=i.get v.ok f;simp[aC];refine aN.cut (λy=>az aV a y/\y.ax=a.ax+1/\c_ y a.ax (aC name p r B)) ?_ ?_
 exact⟨(az.refl i.ok).var _ _,ag,a.clock,by simp[bg,aC]⟩;rintro y⟨D,G,G,S⟩;have M:=v.ok.wf _ _ H;have lR:=v.ok.wf _ _ f;have f:=d.ax;have f:=v.ax;have f:=i.ax;have w:=D.get i.ok n;have f:=D.get i.ok C;have d:=W2.cr i.ok D;have H:∀x,x<h1.ax->¬cm B ys x:=λx m ⟨l,e⟩=>aw (W2.new l x e)
 have C:¬cm B ys a.ax:=λ⟨l,e⟩=>aw (W2.lt i.ok e)
 have n:JN q y h1.ax h.ax a.ax name p r B0 B bs ys:=⟨A,(u.trans i).trans D,z,E,J,J,d,s,⟨_,w⟩,⟨G,S⟩,H _ M,C⟩;refine acn n g (t:=t) (b:=b) ag ag ag ag ag ?_;intro q z u A d M4;have k1:bX q 1=dC ef b:=A.at ag;have k4:cg q 4 (h.ax+1):=A.at ag;have k5:bX q 5=dC ef t:=A.at ag;have k6:cg q 6 a.ax:=A.at ag;have A:=n.ax d (by have:=congrArg dk M4;simp at this;omega);have u0:=A.len;obtain⟨q,q⟩:=A.hH;have Hx:=d.g.get D.ok f (H _ lR);have⟨n,g⟩:=aR u b;have⟨f,G⟩:=aR u t;have grb:n.g=sZ bs t b b X:=by have:=congrArg (λl=>l[b]?) M4;simpa [g,c.hb] using this
 have grt:f.g=sZ bs t b t T:=by have:=congrArg (λl=>l[t]?) M4;simpa [G,c.ht] using this
 have s:=d.g.ok;have S:=A.W;have dq:=S.A.len;have M:=S.at g;have M:=S.at G;obtain⟨M,cs,o4,C,I,w,_,dM,C,eI⟩:=S.A.el g;obtain⟨_,_,_,_,O,U,_,_,U,_⟩:=S.A.el G;rw[I] at O;cases O;have O:=C 1 1 ai;have C:=U 1 1 ai;simp[-ay] at O C;simp[aC] at q;rw[I,dq,u0] at q;have U:=s.bU q;have F:=s.bU w;simp[k1,k4,k5,k6,q,aD q,oi,yE,O,C,U,F,aK,-ay];have nbt:=c.ne;have ne1:M≠a.ax:=λe=>A.oH ⟨K,by rw[<-e];exact cj I⟩;have O:=bk s;have F:=O.get s q;have hBt:=O.get s w;have stH:=s.st _ _ _ _ _ q;have w:=S.cr s O;have Yb5:=w.at g;have U:=w.at G;have q:(tick z).ax=z.ax:=Q;have q:(tick z).clock=z.clock+1:=Q;have q:Y n.ls=Y X.list:=by have:=congrArg (λx=>Y x.list) grb;simpa [YB.g,sZ] using this
 have q:Y f.ls=Y T.list:=by have:=congrArg (λx=>Y x.list) grt;simpa [YB.g,sZ] using this
 generalize tick z=h5 at*;have⟨q,C,ha,Sr,S,XE,_⟩:=DZ (bytes:=80) (z:=[dC ef 0,dC ef 0,dd b9,dC ef 0,dd b9,dC ef 0,dC ef 0,c6 K 0 0]) O.ok rfl Yb5.L U.L.sl J ai;refine kW (ak ha) ?_;have nLB:∀x,bD n.L.v x->x≠M:=λx m e=>by have:=w.uO K (Z (b,.L)) x (by rw[e];exact cj I) (by rw[cJ g];exact dV m);cases this
 have U:∀x,bD n.L.v x->x≠a.ax:=λx m e=>A.oH ⟨Z (b,.L),by rw[cJ g,<-e];exact dV m⟩;have hH6:=S.get O.ok F (λe=>U _ e Q);have U:=S.get O.ok hBt (λe=>nLB _ e Q);have F:=dM 1 1 ai;simp at F;simp[hH6,stH,oi,U,F];have F:=aX (off:=b*6+1) (vs:=[q.v]) S.ok U;have A7:=eI (pF n f q) 1 [q.v] ag (by simp[bg,pF]) (put C M (b*6+1) cs [q.v] o4) ⟨C.clock,ag⟩;have U:az (λx=>fy n.L=Z x\/x=M) h5 (put C M (b*6+1) cs [q.v] o4):=(S.cX λx _ m=>fc (dV m)).trans (F.cX λx _ e=>ft e);have hL7:=Sr.go S.ok F (λx m e=>by have l5:=O.ok.wf _ _ hBt;rcases XE x (jt Sr e) with h|h;exact nLB x h m;omega)
 have FJ:=w.join O.ok g G U (λx m o ho=>by rcases m with m|m;exact ft (w.own (l:=.L) g m ho (λh=>h));have:=w.uO K o x (by rw[m];exact cj I) ho;exact fc this.symm) A7 hL7 (λx e=>(XE x (jt Sr e)).imp (λh=>dV h) λh=>J) (aw A.hn);have A:=FJ.1.vz;have N:=F.get S.ok hH6 (a7 ne1);simp only[SV.AK] at F A N U;have w:(put C M (b*6+1) cs [c6 q.a q.l q.c] o4).clock=C.clock+1:=Q;rw[<-w];have w:=S.get O.ok (O.get s Hx) (λe=>(d.s _ ⟨Z (b,.L),by rw[cJ g];exact dV e⟩).elim (H _ lR) J);have Wc:=F.get S.ok w (λe=>(d.s _ ⟨K,by rw[e];exact cj I⟩).elim (H _ lR) J);generalize put C M (b*6+1) cs _ o4=h7 at*;have w:=U.ok;have⟨s,hy5⟩:∃s,s=pF n f q:=⟨_,Q⟩;rw[<-hy5] at A;have F:(u.set b s)[t]?=Z f:=by rw[fq,bM (a7 nbt)];exact G
 have ans:(u.set b s)[b]?=Z s:=by rw[fq,bH Q,bH J]
 obtain⟨_,q,q,q,q,ayT,_,_,S,_⟩:=A.A.el F;rw[I] at q;cases q;obtain⟨_,cs8,o8,q,q,C,_,afG,_,afY⟩:=A.A.el ans;rw[I] at q;cases q;have q:=S 2 4 ai;simp[-ay] at q;have oH7:=w.bU N;have oB7:=w.bU ayT;have S:=w.st _ _ _ _ _ N;have S:=afG 2 4 ai;simp at S;simp[k1,k5,k6,N,aD N,oi,yE,q,oH7,oB7,C,S,aK,-ay];have q:=bk w;have ayU:=q.get w C;have W:=A.cr w q;have C:=q.get w N;have azm:=q.get w Wc;generalize tick h7=h8 at*;have⟨w,A⟩:∃w:YB,w= {s with kind:=f.kind,on:=f.on,T:=f.T,to:=f.to} :=⟨_,Q⟩;have A9:=afY w 2 [dC ef f.kind,dd f.on.1,dC ef f.on.2,f.T.v] ag (by simp[bg,A]) (put h8 M (b*6+2) cs8 [dC ef f.kind,dd f.on.1,dC ef f.on.2,f.T.v] o8) ⟨h8.clock,ag⟩;have S:=aX (off:=b*6+2) (vs:=[dC ef f.kind,dd f.on.1,dC ef f.on.2,f.T.v]) q.ok ayU;simp only[SV.AK] at A9 S;have hH9:=S.get q.ok C (a7 ne1);have nRb:h.ax+1≠M:=λe=>(d.s _ ⟨K,by rw[e];exact cj I⟩).elim (H _ lR) J;have hR9:=S.get q.ok azm nRb;have H:=W.r s (cK ans);have Zt:=W.r f (cK F);have C:=W.no s (cK ans);have s:=W.no f (cK F);have V9:=W.set q.ok (S.cX λx _ e=>by rw[e];exact cj I) A9 (by rw[A];exact⟨H.P,H.L,Zt.T,H.ps,H.ls⟩) (by
  rw[A];intro l x e;cases l with
  |T=>exact s .T x e
  |P=>exact C .P x e
  |L=>exact C .L x e
  |R j=>exact C (.R j) x e
  |X j=>exact C (.X j) x e)
 rw[wN] at V9;generalize put h8 M (b*6+2) cs8 _ o8=h9 at*;have amn:B.l=Y bs:=by rw[dq,u0]
 have s:=V9.A.lt S.ok (cj I);refine ack (n:=Y bs) (t:=t) (B:=B) (name:=name) (p:=p) (r:=r) S.ok (by simpa [aC,I,amn] using hH9) amn J (av k5) (av k6) (by simp[cU]) ag ?_;intro F KS s H Bj s akJ;have m4:cg F 4 (h.ax+1):=H.at (aq k4);have m5:bX F 5=dC ef t:=H.at (aq k5);have m6:cg F 6 a.ax:=H.at (aq k6);have H:=V9.cr S.ok s;have F:=s.get S.ok hH9;have aze:=s.get S.ok hR9;have afV:(u.set b w)[t]?=Z f:=by rw[fq,bM (a7 nbt)];exact G
 obtain⟨_,aq7,o11,G,a,C,_,amZ,_,G⟩:=H.A.el afV;rw[I] at a;cases a;have a:=amZ 2 4 ai;simp at a;simp[m4,m5,m6,Bj,F,yE,C,a,nRb,ne1,a7 ne1];have⟨a,F⟩:∃a:YB,a= {f with kind:=1,on:=(b9,0),T:=cU,to:=[]} :=⟨_,Q⟩;have A12:=G a 2 [dC ef 1,dd b9,dC ef 0,cU.v] ag (by simp[bg,F]) (put KS M (t*6+2) aq7 [dC ef 1,dd b9,dC ef 0,c6 K 0 0] o11) ⟨KS.clock,by simp[cU]⟩;have G:=aX (off:=t*6+2) (vs:=[dC ef 1,dd b9,dC ef 0,c6 K 0 0]) s.ok C;have amB:=G.get s.ok aze nRb;have C:=H.r f (cK afV);have aiu:=H.no f (cK afV);have V12:=H.set s.ok (G.cX λx _ e=>by rw[e];exact cj I) A12 (by rw[F];exact⟨C.P,C.L,⟨Q,fc ⟨Q,Q,Q⟩⟩,C.ps,C.ls⟩) (by
  rw[F];intro l x e;cases l with
  |T=>cases e
  |P=>exact aiu .P x e
  |L=>exact aiu .L x e
  |R j=>exact aiu (.R j) x e
  |X j=>exact aiu (.X j) x e)
 have C:=akJ.sl.grow s.ok G (λx m e=>aw (akJ.of m));generalize put KS M (t*6+2) aq7 _ o11=h12 at*;have MJ:((u.set b w).set t a).map YB.g=iW bs b t T:=Bc λk=>by
  rw[gu,fq,fq,lj,iW,bn];have Mk:(u[k]?).map YB.g=(bs[k]?).map (sZ bs t b k):=by have:=congrArg (λl=>l[k]?) M4;simpa [bn] using this
  by_cases H:t=k
  .subst H;rw[bH Q,bH J,c.ht];simp only[zz,if_true];have u:a.g= {f.g with kind:=1,on:=(b9,0),to:=[]} :=by rw[F];rfl
   rw[u,grt]
  .rw[bM H];by_cases u:b=k
   .subst u;rw[bH Q,bH J,c.hb];simp only[zz];rw[bM (a7 H),bH trivial];have c:w.g=⟨n.g.aP,n.g.list++f.g.list,f.g.kind,f.g.on,f.g.to⟩:=by rw[A,hy5];simp[YB.g,pF]
    rw[c,grb,grt];rfl
   rw[bM u,Mk];rcases bs[k]? with _|x;rfl;simp only[zz];rw[bM (a7 H),bM (a7 u)]
 have u:=V12.view;rw[MJ] at u;have H:Y (j7 (Y bs) t)<100000:=by unfold j7;exact Lt (NN _ _) (by simp;omega)
 refine bm.call (V:=js name p r (bu (iW bs b t T) (j7 (Y bs) t)) h12) (by simpa [aC,I,amn] using E6 G.ok (.refl G.ok) (name:=name) (p:=p) (r:=r) u EJ ZJ C H (λk u=>by unfold j7 at u;have:=QM.1 (EG.1 u).1;simpa [iW] using this)) ?_;rintro _ u⟨u,f,c,rfl,n,w,C⟩;have A:=u.get G.ok amB;simp[aC,m4,A];have H:∀x,cm B ys x\/y.ax<=x->h1.ax<=x:=λx m=>m.elim (λ⟨l,e⟩=>W2.new l x e) J;have y:h1.ax<=M:=H M (d.s _ ⟨K,cj I⟩);have M:az aV h z:=((v.trans i).trans D).trans' d.g aj (λx m e=>aw (H x (fc e)));have D:az aV h h7:=(M.trans O).trans' U aj (λx m e=>by rcases e with e|e;have:=H x (d.s _ ⟨Z (b,.L),by rw[cJ g];exact e⟩);omega;omega)
 have b:az aV h h9:=(D.trans q).trans' S aj (λx m e=>J);have g:az aV h h12:=(b.trans s).trans' G aj (λx m e=>J);have h:=aX (off:=0) (vs:=[eT name,dC ef p,dC ef r,f.v]) u.ok A;simp at h;have A:=g.ax;exact⟨(g.trans u).trans' h aj (λx m e=>J),f,c,by simp[aC],(n.go u.ok h λx l e h=>by have:=n.new l x h;have:=G.ax;have:=s.ax;have:=S.ax;have:=q.ax;have:=U.ax;have:=d.g.ax;omega).cX J,w,C⟩
def Ky:∀ {pk:List Int} {k:Nat} {x:Int},pk.Nodup->pk[k]?=Z x->pk.take k++pk.drop (k+1)=pk.filter (λa=>a !=x)
 |[],_,_,_,h=>by simp at h
 |y::pk,0,x,b,h=>by
  have⟨h1,_⟩:=kI.1 b;have e:y=x:=ak h
  subst e;rw[bO ag];simp;exact(fA.2 λa f=>by simp;exactλe=>h1 (e▸f)).symm
 |y::pk,k+1,x,b,h=>by
  have⟨h1,m⟩:=kI.1 b;have b:pk[k]?=Z x:=ak h
  have c:y≠x:=λe=>h1 (e▸cK b);rw[db (ak c),<-Ky m b];simp
def Fc:∀ {l:List (Int×(Bool×Int))} (n:Int),l.Pairwise (λa b=>a.1<b.1)->l.filter (λx=>decide (x.1<n))=l.take (Y (l.filter λx=>decide (x.1<n)))/\l.filter (λx=> !decide (x.1<n))=l.drop (Y (l.filter λx=>decide (x.1<n)))
 |[],_,_=>⟨Q,Q⟩
 |x::l,n,h=>by
  have⟨h1,f⟩:=ob.1 h;by_cases e:x.1<n;have⟨a,b⟩:=Fc n f;rw[db (ak e),bO (ak e)];exact⟨by rw[kb,List.take_succ_cons,<-a],by rw[kb,List.drop_succ_cons,<-b]⟩
  .have no:l.filter (λx=>decide (x.1<n))=[]:=by rw[ns];intro y c;have:=h1 y c;simp;omega
   rw[bO (ak e),db (ak e),no];exact⟨Q,congrArg (x:: ·) (fA.2 λy c=>by have:=h1 y c;simp;omega)⟩
def PF(f:Y row=Y pk)(s:pk.Pairwise (· < ·))(d:∀a∈pk,0<=a/\a<n):fZ (pk.zip row) n=row:=by
 have b:∀x∈pk.zip row,x.1∈pk:=λx c=>(b8 (a:=x.1) (b:=x.2) c).1;have ps:(pk.zip row).Pairwise (λa f=>a.1<f.1):=by have e:(pk.zip row).map (·.1)=pk:=P4 J;rw[<-e] at s;exact gw.1 s
 rw[wJ (.refl _) ps (λx c=>(d _ (b x c)).1) n,fA.2 (λx c=>by have:=d _ (b x c);simpa using this.2)];exact sc J
def agB{bU b:Int}(s:Y row=Y pk)(s:pk.Pairwise (· < ·))(j:∀a∈pk,0<=a/\a<n)(h:bU∈pk)(u:b∉pk)(h1:0<=b/\b<n):fZ ((pk.zip row).map (iI bU b)) n=N7 pk bU b row:=by
 have i:pk.Nodup:=s.imp λq=>J
 have⟨k,p,O,c⟩:=j_ h;have h:∀x∈pk.zip row,x.1∈pk:=λx c=>(b8 (a:=x.1) (b:=x.2) c).1;have I:(pk.zip row).map (·.1)=pk:=P4 J;have G:(pk.zip row).map (·.2)=row:=sc J;have ps:(pk.zip row).Pairwise (λa g=>a.1<g.1):=by rw[<-I] at s;exact gw.1 s
 have⟨v,s⟩:=aR row k;have⟨d,w⟩:∃d,d=pk.zip row:=⟨_,Q⟩;rw[<-w] at h I G ps⊢;have m:d[k]?=Z (bU,v):=by rw[w,fi];exact⟨O,s⟩
 have D:Y d=Y pk:=by rw[w,tl];omega
 have⟨D,f⟩:∃D,D=d.take k++d.drop (k+1):=⟨_,Q⟩;have M:D.map (·.1)=pk.filter (λa=>a !=bU):=by rw[f,aW,Xc,Xm,I];exact Ky i O
 have w:D.map (·.2)=fQ row k:=by rw[f,aW,Xc,Xm,G];rfl
 have O:∀x∈D,x∈d:=λx c=>by rw[f] at c;exact(jL.1 c).elim Xp List.mem_of_mem_drop
 have W:∀x∈D,x.1≠bU:=λx c=>by have:x.1∈D.map (·.1):=QP c;rw[M] at this;simpa using(EG.1 this).2
 have G:D.Pairwise (λa g=>a.1<g.1):=by
  rw[f];exact ps.sublist (by
   have:d=d.take k++d.drop k:=(ki k d).symm
   conv=>rhs;rw[this]
   refine abQ (abP _) ?_;rw[fj (by omega:k<Y d)];exact List.sublist_cons_self _ _)
 have S:d=d.take k++(bU,v)::d.drop (k+1):=by
  conv=>lhs;rw[<-ki k d,fj (by omega:k<Y d)]
  have:d[k]'J=(bU,v):=by rw[iK J] at m;simpa using m
  rw[this]
 have i:∀ {l:List (Int×(Bool×Int))},(∀x∈l,x.1≠bU)->l.map (iI bU b)=l:=fun {l} q=>by
  conv=>rhs;rw[<-rk l]
  exact bf λx c=>by unfold iI;rw[bM (q x c)];rfl
 have N:(d.map (iI bU b)).Perm ((b,v)::D):=by
  rw[S,aW,zZ,i (λx c=>W x (by rw[f];exact ba _ c)),i (λx c=>W x (by rw[f];exact aT _ c))];have:iI bU b (bU,v)=(b,v):=by unfold iI;rw[bH rfl]
  rw[this,f];exact Po
 have⟨r,t⟩:=Fc b G;have⟨f,i⟩:∃f,f=D.filter (λx=>decide (x.1<b))++(b,v)::D.filter (λx=> !decide (x.1<b)):=⟨_,Q⟩;have P:f.Perm (d.map (iI bU b)):=by refine List.Perm.trans ?_ N.symm;rw[i];refine Po.trans (List.Perm.cons _ ?_);exact List.filter_append_perm _ _
 have S:f.Pairwise (λa g=>a.1<g.1):=by
  rw[i,List.pairwise_append];refine⟨G.filter _,ob.2 ⟨λx c=>?_,G.filter _⟩,λa G g q=>?_⟩;have o:=(EG.1 c).2;have g:x.1≠b:=λe=>u (e▸h x (O x (EG.1 c).1));simp at o;show b<x.1;omega
  have o:=(EG.1 G).2;simp at o;rcases bd.1 q with rfl|q;exact o;have g:=(EG.1 q).2;simp at g;omega
 have V:∀x∈d.map (iI bU b),0<=x.1/\x.1<n:=λx c=>by rcases bd.1 (N.subset c) with rfl|c;exact h1;exact j _ (h x (O x c))
 rw[wJ P S (λx c=>(V x c).1) n,fA.2 (λx c=>by have:=V x (P.subset c);simpa using this.2)];have c:Y (D.filter λx=>decide (x.1<b))=Y (pk.filter λa=>decide (a<b)&&a !=bU):=by
  have:Y ((D.map (·.1)).filter λa=>decide (a<b))=Y (D.filter λx=>decide (x.1<b)):=by rw[List.filter_map,yd];rfl
  rw[<-this,M,List.filter_filter]
 rw[i,r,t,c];unfold N7 jR;rw[p,Xn,s,<-w];simp
def fF(bs:List GB)(b:Int):(aI bs b).Pairwise (· < ·):=by unfold aI jO;exact gw.2 ((List.pairwise_lt_range.filter _).imp λh=>J)
def qO{b a:Int}(h:a∈aI bs b):0<=a/\a<Y bs:=by obtain⟨i,rfl,x,c,_⟩:=cu.1 h;have:=(cR.mp c).1;omega
section
variable{bs:List GB}{b t:Nat}{X T:GB}
def dv.sZ(c:dv bs b t X T)(E:EB bs){i:Nat}{x:GB}(w:bs[i]?=Z x)(h:i≠t):Go.Proofs.YtdhnndleffachaaGreatDoor.sZ bs t b i x=if(i:Int)∈T.to then Dt (aI bs i) t b x else x:=by
 have G:=(cR.mp c.hb).1;have d:∀p∈x.aP,uB bs t b i p=if(i:Int)∈T.to then⟨p.dst,N7 (aI bs i) t b p.row⟩ else p:=λp o=>by
  have m:=E.rows i x w p o;unfold uB dJ;by_cases e:(i:Int)∈T.to;rw[bH e,agB m (fF bs i) (λa f=>qO f) (c.Sj.2 e) (c.not h) J]
  .rw[bM e];have:((aI bs i).zip p.row).map (iI t b)=(aI bs i).zip p.row:=by
    conv=>rhs;rw[<-rk ((aI bs i).zip p.row)]
    refine bf λy q=>?_;unfold iI;rw[bM (λs=>e (c.Sj.1 (by rw[<-s];exact(b8 (a:=y.1) (b:=y.2) q).1)))];rfl
   rw[this,PF m (fF bs i) (λa f=>qO f)]
 unfold Go.Proofs.YtdhnndleffachaaGreatDoor.sZ;rw[bf d];by_cases e:(i:Int)∈T.to;simp only[bH e];rfl;simp only[bM e];rw[show x.aP.map (λp=>p)=x.aP from rk _]
def HJ(c:dv bs b t X T)(E:EB bs)(h:i≠t):(iW bs b t T)[i]?=(cf bs b t X T)[i]? :=by
 unfold iW cf;rw[bn,bn];rcases f:bs[i]? with _|x;rfl
 .simp only[zz];unfold dI;rw[bM h,bM h,c.sZ E f h];by_cases e:i=b;subst e;rw[c.hb] at f;cases f;rw[bH rfl];try rw[bH rfl]
  rw[bM e,bM e]
def Ux(c:dv bs b t X T):(iW bs b t T)[t]?=Z ⟨[],T.list,1,(b9,0),[]⟩:=by unfold iW;rw[bn,c.ht];simp only[zz,if_true];unfold Go.Proofs.YtdhnndleffachaaGreatDoor.sZ;rw[c.ph];rfl
def Lx:Y (iW bs b t T)=Y bs:=by simp[iW]
def EB.same{d:List GB}(E:EB bs)(f:Y d=Y bs)(H:∀(i:Nat)(x c:GB),bs[i]?=Z x->d[i]?=Z c->c.aP=x.aP/\c.kind=x.kind/\c.to=x.to):EB d:=by
 have g:∀c∈d,∃x∈bs,c.aP=x.aP/\c.kind=x.kind/\c.to=x.to:=λc d=>by have⟨i,w⟩:=iF d;have⟨x,d⟩:=aR bs i (by rw[<-f];exact(cR.mp w).1);exact⟨x,cK d,H i x c d w⟩
 refine⟨by rw[f];exact E.n1,by rw[f];exact E.n50,λc d=>?_,λc d=>?_,λi c d p s=>?_,λc d=>?_⟩;have⟨x,m,_,G,q⟩:=g c d;rw[G,q];exact E.kind x m;have⟨x,m,_,_,q⟩:=g c d;rw[q,f];exact E.to x m;have⟨x,o⟩:=aR bs i (by rw[<-f];exact(cR.mp d).1);rw[(H i x c o d).1] at s;rw[pw f λi x c a b=>(H i x c a b).2.2];exact E.rows i x o p s;have⟨x,m,e,_⟩:=g c d;rw[e];exact E.pl x m
def PJ(c:dv bs b t X T)(E:EB bs)(i:Nat)(x a:GB)(h1:(cf bs b t X T)[i]?=Z x)(f:(iW bs b t T)[i]?=Z a):a.aP=x.aP/\a.kind=x.kind/\a.to=x.to:=by by_cases e:i=t;subst e;rw[Ux c] at f;rw[gQ c.ht] at h1;cases h1;cases f;unfold dI;rw[bH rfl];exact⟨Q,Q,Q⟩;rw[HJ c E e,h1] at f;cases f;exact⟨Q,Q,Q⟩
def dv.ebJ(c:dv bs b t X T)(E:EB bs):EB (iW bs b t T):=(c.eb E).same (by rw[Lx,ig]) (PJ c E)
def dv.alZ(c:dv bs b t X T)(E:EB bs)(k:Int):aI (iW bs b t T) k=aI (cf bs b t X T) k:=pw (by rw[Lx,ig]) (λi x f a d=>(PJ c E i x f a d).2.2) k
def y9 :k∈j7 n t↔k<n/\k≠t:=by unfold j7;rw[EG,QM];simp
def acv(n t:Nat):Ord n (j7 n t):=⟨ym.filter _,λx c=>(y9.1 c).1⟩
def Ys(f:1<=n)(c:1<=t):(j7 n t)[0]?=Z 0:=by obtain⟨m,rfl⟩:∃m,n=m+1:=⟨n-1,J⟩;unfold j7;rw[List.range_succ_eq_map,db (by simp;omega)];rfl
def dv.left(c:dv bs b t X T)(E:EB bs):mL (cf bs b t X T) (j7 (Y bs) t):=by
 refine⟨by rw[ig];exact acv _ _,Ys E.n1 (aw (E.to X (cK c.hb) t (by rw[c.to];simp))),λk x w s u f=>?_⟩;have q:=(y9.1 w).2;have a:=c.eb E;have o:=a.to x (cK s) u f;rw[ig] at o;refine y9.2 ⟨J,λe=>?_⟩;obtain⟨y,I,rfl⟩:=fT s;rw[dH,bM q] at f;have G:u=(t:Int):=J
 subst G;split at f;exact c.self f;rename_i m;exact m (c.YY I f)
def dv.kept(c:dv bs b t X T)(E:EB bs):bu (iW bs b t T) (j7 (Y bs) t)=bu (cf bs b t X T) (j7 (Y bs) t):=by unfold bu;refine bf λk f=>?_;rw[c.alZ E,HJ c E (y9.1 f).2]
end
def As:∀ {l m:List Int},l.Pairwise (· < ·)->m.Pairwise (· < ·)->(∀a,a∈l↔a∈m)->l=m
 |[],[],_,_,_=>rfl
 |[],y::m,_,_,h=>by have:=(h y).2 (iz ..);simp at this
 |x::l,[],_,_,h=>by have:=(h x).1 (iz ..);simp at this
 |x::l,y::m,h1,w,h=>by
  have⟨q,s⟩:=ob.1 h1;have⟨o,c⟩:=ob.1 w;have e:x=y:=by rcases bd.1 ((h x).1 (iz ..)) with e|e;exact e;rcases bd.1 ((h y).2 (iz ..)) with f|f;exact f.symm;have:=o x e;have:=q y f;omega
  subst e;rw[As s c λa=>?_];constructor;intro c;rcases bd.1 ((h a).1 (vU _ c)) with e|e;have:=q a c;omega;exact e
  intro c;rcases bd.1 ((h a).2 (vU _ c)) with e|e;have:=o a c;omega;exact e
def akh{f m:List (Bool×Int)}(b:pk.Nodup)(h1:Y f=Y pk)(I:Y m=Y pk)(h:∀e∈pk.zip f,e∈pk.zip m):f=m:=by
 refine Bc λj=>?_;by_cases G:j<Y pk
 .have⟨a,o⟩:=aR pk j G;have⟨v,q⟩:=aR f j;have s:=h (a,v) (cK (i:=j) (by rw[fi];exact⟨o,q⟩));have⟨k,c⟩:=iF s;rw[fi] at c;have:k=j:=by have w:=(cR.mp c.1).1;exact(ga w b).1 (c.1.trans o.symm)
  subst this;rw[q,c.2]
 rw[xE J,xE J]
def Uk(l:List (Int×(Bool×Int))):Prop:=∀a v w,(a,v)∈l->(a,w)∈l->v=w
def qY(u:Uk l) :fw l a=Z v↔(a,v)∈l:=by
 unfold fw;constructor
 .intro h;obtain⟨x,m,rfl⟩:=cQ.1 h;have h1:=lk m;have c:=Aa m;have:x.1=a:=ak c
  rw[<-this];exact h1
 .intro h;cases f:l.find? λx=>x.1==a with
  |none=>have:=List.find?_eq_none.1 f _ h;simp at this
  |some x=>
   have h1:=lk f;have c:=Aa f;have:x.1=a:=ak c
   rw[zz,u a x.2 v (by rw[<-this];exact h1) h]
def PR{c:List Int}(s:c.Pairwise (· < ·))(u:Uk l)(w:∀a,a∈c↔ ∃v,(a,v)∈l)(o:∀x∈l,0<=x.1/\x.1<n):(∀e,e∈c.zip (fZ l n)↔e∈l)/\Y (fZ l n)=Y c:=by
 have G:c=(HK l n).map λx:Nat=>(x:Int):=by
  refine As s (gw.2 ((List.pairwise_lt_range.filter _).imp λh=>J)) λa=>?_;rw[w,iT];constructor;rintro⟨v,c⟩;have:=o _ c;exact⟨a.toNat,rh.2 ⟨by simp at this;omega,v,(qY u).2 (by rw[show((a.toNat:Nat):Int)=a by simp at this;omega];exact c)⟩,by simp at this;omega⟩
  rintro⟨k,f,rfl⟩;have⟨_,v,c⟩:=rh.1 f;exact⟨v,(qY u).1 c⟩
 rw[MB,G];refine⟨λe=>?_,ag⟩;rw[List.zip_map',iT];constructor
 .rintro⟨k,f,rfl⟩;have⟨_,v,c⟩:=rh.1 f;have:aa4 l k=v:=by unfold aa4;rw[c];rfl
  rw[this];exact(qY u).1 c
 .intro m;have I:=o e m;refine⟨e.1.toNat,rh.2 ⟨J,e.2,(qY u).2 (by rw[show((e.1.toNat:Nat):Int)=e.1 by omega];exact m)⟩,?_⟩;have q:((e.1.toNat:Nat):Int)=e.1:=J
  have:fw l ((e.1.toNat:Nat):Int)=Z e.2:=(qY u).2 (by rw[q];exact m);unfold aa4;rw[this];exact Prod.ext q rfl
def ao1(b:pk.Nodup):Uk (pk.zip row):=λa v w h1 m=>by have⟨i,c⟩:=iF h1;have⟨j,f⟩:=iF m;rw[fi] at c f;have o:=(cR.mp c.1).1;have:i=j:=(ga o b).1 (c.1.trans f.1.symm);subst this;have:=c.2.symm.trans f.2;cases this;rfl
section
variable{bs h:List GB}{b t:Nat}{X T:GB}
def QN(E:EB bs)(O:EB h)(f:Y h=Y bs)(H:∀(i:Nat)(x b:GB),bs[i]?=Z x->h[i]?=Z b->(b.list=x.list/\b.kind=x.kind/\b.on=x.on/\b.to=x.to)/\Y b.aP=Y x.aP/\∀(j:Nat)(p c:GP),x.aP[j]?=Z p->b.aP[j]?=Z c->c.dst=p.dst/\∀e∈(aI bs i).zip p.row,e∈(aI h i).zip c.row):h=bs:=by
 refine Bc λi=>?_;rcases Bb i (Y bs) with q|q
 .have⟨x,s⟩:=aR bs i q;have⟨b,o⟩:=aR h i;have⟨⟨h1,G,M,I⟩,g,N⟩:=H i x b s o;have V:aI h i=aI bs i:=pw f (λk y W a d=>(H k y W a d).1.2.2.2) i;rw[s,o];have f:b.aP=x.aP:=Bc λj=>by
   rcases Bb j (Y x.aP) with m|m;have⟨p,f⟩:=aR x.aP j m;have⟨c,g⟩:=aR b.aP j;have⟨d,w⟩:=N j p c f g;rw[f,g];have S:=E.rows i x s p (cK f);have s:=O.rows i b o c (cK g);rw[V] at s w;have:=akh (eC bs i) S s w;cases p;cases c;simp at d this;rw[d,this]
   rw[xE m,xE J]
  cases x;cases b;simp at h1 G M I f;rw[h1,G,M,I,f]
 rw[xE q,xE J]
def dv.aP(c:dv bs b t X T)(E:EB bs){i:Nat}{x:GB}(f:bs[i]?=Z x)(h:i≠t):(dI bs b t X T i x).aP=x.aP.map (uB bs t b i):=by rw[mf h,<-c.sZ E f h];rfl
def aoI{t b:Int}(u:Uk l)(d:∀v,(b,v)∉l):Uk (l.map (iI t b)):=λa v w h1 q=>by have⟨x,o,c⟩:=iT.1 h1;have⟨y,m,f⟩:=iT.1 q;unfold iI at c f;split at c<;>split at f;cases c;cases f;exact u t _ _ (by rename_i h _;rw[<-h];exact o) (by rename_i h;rw[<-h];exact m);cases c;exact absurd m (by rw[f];exact d w);cases f;exact absurd o (by rw[c];exact d v);rw[c] at o;rw[f] at m;exact u a v w o m
def dv.gW(c:dv bs b t X T)(E:EB bs)(G:bs[i]?=Z x)(h:i≠t){p:GP}(w:p∈x.aP)(e:Int×(Bool×Int)):e∈(aI (cf bs b t X T) i).zip (uB bs t b i p).row↔ ∃f∈(aI bs i).zip p.row,e=iI t b f:=by
 have s:=E.rows i x G p w;have w:∀v,((b:Int),v)∉(aI bs i).zip p.row:=λv o=>c.not h (b8 o).1;have z:=PR (l:=((aI bs i).zip p.row).map (iI t b)) (n:=Y bs) (fF (cf bs b t X T) i) (aoI (ao1 (eC bs i)) w) (λa=>?_) (λy q=>?_)
 rw[show(uB bs t b i p).row=fZ (((aI bs i).zip p.row).map (iI t b)) (Y bs) from Q,z.1,iT];exact⟨λ⟨f,a,d⟩=>⟨f,a,d.symm⟩,λ⟨f,a,d⟩=>⟨f,a,d.symm⟩⟩
 .rw[c.mem h];constructor;rintro(⟨rfl,m⟩|⟨I,m⟩);have⟨v,o⟩:=Sn s (c.Sj.2 m);exact⟨v,iT.2 ⟨_,o,by unfold iI;rw[bH rfl]⟩⟩;have⟨v,o⟩:=Sn s m;exact⟨v,iT.2 ⟨_,o,by unfold iI;rw[bM I]⟩⟩
  .rintro⟨v,o⟩;have⟨y,q,e⟩:=iT.1 o;have m:=(b8 (a:=y.1) (b:=y.2) q).1;unfold iI at e;split at e
   rename_i h1;cases e;exact fc ⟨Q,c.Sj.1 (h1▸m)⟩;rename_i h1;rw[e] at h1 m;exact ft ⟨h1,m⟩
 .obtain⟨z,s,rfl⟩:=iT.1 q;have m:=qO (b8 (a:=z.1) (b:=z.2) s).1;have M:=(cR.mp c.hb).1;unfold iI;split
  exact⟨by show(0:Int)<=b;omega,by show(b:Int)<Y bs;omega⟩;exact m
end
def fD(bs:List GB)(b t:Nat)(B T:GB)(i:Nat)(X:GB):(dI bs b t B T i X).list=if i=t then [] else if i=b then B.list++T.list else X.list:=by unfold dI;split;rfl;split;rfl;split<;>rfl
def iv(bs:List GB)(b t:Nat)(B T:GB)(i:Nat)(X:GB):(dI bs b t B T i X).on=if i=t then(b9,0) else if i=b then T.on else X.on:=by unfold dI;split;rfl;split;rfl;split<;>rfl
def uX{b t:Nat}{B T:GB}(h:i=t):dI bs b t B T i X=tF:=by unfold dI;rw[bH h]
def CQ{b t:Nat}{B T:GB}(h:X.aP=[]):(dI bs b t B T i X).aP=[]:=by by_cases e:i=t;unfold dI;rw[bH e];rfl;rw[mf e];split;unfold Dt;rw[h];rfl;exact h
section
variable{bs:List GB}{b t r z:Nat}{X T A C:GB}
def mB(b t r:Nat):Nat:=if r=t then b else r
def dv.tne(f:dv bs b t X T)(c:dv bs r z A C)(m:r≠b):z≠t:=λe=>m (f.YY c.hb (by rw[c.to,e];simp))
def dv.second(f:dv bs b t X T)(c:dv bs r z A C)(m:r≠b)(a:¬(r=t/\z=b)):∃q,bs[mB b t r]?=Z q/\dv (cf bs b t X T) (mB b t r) z (dI bs b t X T (mB b t r) q) (dI bs b t X T z C):=by
 have q:=f.tne c m;unfold mB;by_cases e:r=t
 .rw[bH e];have o:A=T:=by have:=c.hb;rw[e,f.ht] at this;cases this;rfl
  refine⟨X,f.hb,gQ f.hb,gQ c.ht,?_,?_,λh=>a ⟨e,h⟩,CQ c.ph,?_⟩;rw[dK,bM (a7 f.ne),bH Q,<-o];exact c.k2;rw[dH,bM (a7 f.ne),bH Q,<-o];exact c.to;rw[f.aiA q];exact c.one
 rw[bM e];refine⟨A,c.hb,gQ c.hb,gQ c.ht,?_,?_,c.ne,CQ c.ph,?_⟩;rw[dK,bM e,bM m];exact c.k2;rw[dH,bM e,bM m];exact c.to;rw[f.aiA q];exact c.one
def ac6(M:r≠b)(d:z≠t)(I:t≠b)(w:z≠r)(d:¬(r=t/\z=b))(f:Int×(Bool×Int)):iI z (mB b t r) (iI t b f)=iI t (mB r z b) (iI z r f):=by
 have⟨a,v⟩:=f;unfold mB;by_cases o:a=t
 .subst o;have h1:¬((t:Int)=(z:Int)):=J
  by_cases c:b=z;have m:¬r=t:=λe=>d ⟨e,c.symm⟩;simp[iI,h1,c,m]
  .have G:¬((b:Int)=(z:Int)):=J
   simp[iI,h1,c,G]
 .by_cases c:a=z
  .subst c;by_cases m:r=t;have s:¬b=z:=λe=>d ⟨m,e.symm⟩;simp[iI,o,m,s]
   .have q:¬((r:Int)=(t:Int)):=J
    simp[iI,o,m,q]
  simp[iI,o,c]
def dv.swap(o:dv bs b t X T)(s:dv bs r z A C)(E:EB bs)(N:r≠b)(g:¬(r=t/\z=b)):∃U c P O,dv (cf bs b t X T) (mB b t r) z U c/\dv (cf bs r z A C) (mB r z b) t P O/\cf (cf bs b t X T) (mB b t r) z U c=cf (cf bs r z A C) (mB r z b) t P O:=by
 have v:=o.tne s N;have B:¬(b=z/\t=r):=λd=>g ⟨d.2.symm,d.1.symm⟩;have⟨a,L,D⟩:=o.second s N g;have⟨F,h,S⟩:=s.second o (a7 N) B;refine⟨_,_,_,_,D,S,?_⟩;have k:=o.eb E;have f:=s.eb E;refine QN (S.eb f) (D.eb k) (by simp only[ig]) λi G P H h1=>?_;obtain⟨P,l,rfl⟩:=fT H;obtain⟨B,q,rfl⟩:=fT h1;obtain⟨x,w,rfl⟩:=fT l;obtain⟨B,M,rfl⟩:=fT q;rw[w] at M;cases M;have G:mB b t r≠t:=by unfold mB;split;exact a7 o.ne;assumption
 have G:mB r z b≠z:=by unfold mB;split;exact a7 s.ne;assumption
 refine⟨?_,?_⟩
 .have n:i=b->x=X:=λe=>by rw[e,o.hb] at w;cases w;rfl
  have P:i=r->x=A:=λe=>by rw[e,s.hb] at w;cases w;rfl
  have V:=o.ne;have B:=s.ne;by_cases M:r=t
  .have I:¬b=z:=λe=>g ⟨M,e.symm⟩;have W:mB b t r=b:=by unfold mB;rw[bH M]
   have y:mB r z b=b:=by unfold mB;rw[bM I]
   have u:A=T:=by have:=s.hb;rw[M,o.ht] at this;cases this;rfl
   rw[W,o.hb] at L;rw[y,o.hb] at h;cases L;cases h;rw[W,y];clear D S q l h1 H k f;subst M;subst u;by_cases c:i=r
   .have G:¬i=z:=J
    have O:¬i=b:=J
    simp[fD,dK,iv,dH,c,G,O,a7 v,a7 V,V,I]
   .by_cases m:i=z
    .have O:¬i=b:=J
     simp[fD,dK,iv,dH,c,m,O,v,V,I,a7 I]
    by_cases G:i=b;have:=n G;subst this;simp[fD,dK,iv,dH,c,m,G,v,V,I,a7 I,a7 V,a7 v,N];simp[fD,dK,iv,dH,c,m,G]
  .have W:mB b t r=r:=by unfold mB;rw[bM M]
   rw[W,s.hb] at L;cases L;by_cases I:b=z
   .have y:mB r z b=r:=by unfold mB;rw[bH I]
    have u:X=C:=by have:=o.hb;rw[I,s.ht] at this;cases this;rfl
    rw[y,s.hb] at h;cases h;rw[W,y];clear D S q l h1 H k f;subst I;subst u;by_cases c:i=t
    .have G:¬i=b:=J
     have O:¬i=r:=J
     simp[fD,dK,iv,dH,c,a7 v,a7 M,V]
    by_cases m:i=b;simp[fD,dK,iv,dH,m,v,V,a7 N,B];by_cases G:i=r;have:=P G;subst this;simp[fD,dK,iv,dH,G,M,v,V,N,a7 N,a7 M,a7 v,B];simp[fD,dK,iv,dH,c,m,G]
   .have y:mB r z b=b:=by unfold mB;rw[bM I]
    rw[y,o.hb] at h;cases h;rw[W,y];clear D S q l h1 H k f;by_cases c:i=t;simp[fD,dK,iv,dH,c,a7 v,a7 M,V]
    .by_cases m:i=z;simp[fD,dK,iv,dH,m,v,a7 I,B]
     .by_cases G:i=b;have:=n G;subst this;simp[fD,dK,iv,dH,G,I,a7 N,a7 V,a7 v,a7 M,V]
      by_cases O:i=r;have:=P O;subst this;simp[fD,dK,iv,dH,O,M,N,v,a7 I,a7 B,B];simp[fD,dK,iv,dH,c,m,G,O]
 .by_cases c:i=t
  .have q:(dI (cf bs b t X T) (mB b t r) z (dI bs b t X T (mB b t r) a) (dI bs b t X T z C) i (dI bs b t X T i x)).aP=[]:=CQ (by rw[uX c];rfl);have l:(dI (cf bs r z A C) (mB r z b) t (dI bs r z A C (mB r z b) F) (dI bs r z A C t T) i (dI bs r z A C i x)).aP=[]:=by rw[uX c];rfl
   rw[q,l];exact⟨Q,λj p P d=>by simp at d⟩
  .by_cases m:i=z
   .have l:(dI (cf bs r z A C) (mB r z b) t (dI bs r z A C (mB r z b) F) (dI bs r z A C t T) i (dI bs r z A C i x)).aP=[]:=CQ (by rw[uX m];rfl);have q:(dI (cf bs b t X T) (mB b t r) z (dI bs b t X T (mB b t r) a) (dI bs b t X T z C) i (dI bs b t X T i x)).aP=[]:=by rw[uX m];rfl
    rw[q,l];exact⟨Q,λj p P d=>by simp at d⟩
   .rw[D.aP k (gQ w) m,o.aP E w c,S.aP f (gQ w) c,s.aP E w m];refine⟨ag,λj p P n u=>?_⟩;rw[gN,gu] at n u;obtain⟨q,B,rfl⟩:=cQ.1 n;rw[B] at u;cases u;have G:=cK B;refine⟨Q,λe L=>?_⟩;have H:uB bs z r i q∈(dI bs r z A C i x).aP:=by rw[s.aP E w m];exact QP G
    have O:uB bs t b i q∈(dI bs b t X T i x).aP:=by rw[o.aP E w c];exact QP G
    obtain⟨a,P,rfl⟩:=(S.gW f (gQ w) c H e).1 L;obtain⟨y,q,rfl⟩:=(s.gW E w m G a).1 P;refine(D.gW k (gQ w) m O _).2 ⟨iI t b y,(o.gW E w c G _).2 ⟨y,q,Q⟩,?_⟩;exact(ac6 N v o.ne s.ne g y).symm
end
def Rk(bs:List GB)(a:Nat->Nat):Prop:=∀k:Nat,k≠0->aI bs k=[]\/∃u:Nat,(u:Int)∈aI bs k/\a u<a k
section
variable{bs:List GB}{r:Nat->Nat}{b t z h:Nat}{X T A C:GB}
def dv.in1(c:dv bs b t X T):(b:Int)∈aI bs t:=cu.2 ⟨b,Q,X,c.hb,by rw[c.to];simp⟩
def dv.only(c:dv bs b t X T){a:Nat}(h:(a:Int)∈aI bs t):a=b:=by
 obtain⟨j,e,f,m,f⟩:=cu.1 h;have:j=a:=J
 subst this;exact c.YY m f
def dv.t1(c:dv bs b t X T)(E:EB bs):t≠0:=aw (E.to X (cK c.hb) t (by rw[c.to];simp))
def Rk.lt(R:Rk bs r)(E:EB bs)(c:dv bs b t X T):r b<r t:=by rcases R t (c.t1 E) with h|⟨u,f,m⟩;have:=c.in1;rw[h] at this;cases this;rw[<-c.only f];exact m
def Rk.nc(R:Rk bs r)(E:EB bs)(m:dv bs b t X T)(c:dv bs z h A C):¬(z=t/\h=b):=λ⟨h1,f⟩=>by have:=R.lt E m;have:=R.lt E c;rw[h1,f] at this;omega
def dv.dead(c:dv bs b t X T):aI (cf bs b t X T) t=[]:=by refine oL.2 λa h=>?_;obtain⟨j,e,q,q,f⟩:=cu.1 h;obtain⟨d,m,rfl⟩:=fT q;rw[dH] at f;split at f;cases f;split at f;exact c.self f;rename_i o;exact o (c.YY m f)
def Rk.step(R:Rk bs r)(E:EB bs)(c:dv bs b t X T):Rk (cf bs b t X T) r:=λk q=>by
 by_cases e:k=t;rw[e];exact fc c.dead
 .rcases R k q with h|⟨u,o,m⟩;refine fc (oL.2 λa s=>?_);rcases(c.mem e).1 s with⟨_,hm⟩|⟨_,hm⟩;have:=c.Sj.2 hm;rw[h] at this;cases this;rw[h] at hm;cases hm
  .by_cases f:u=t;refine ft ⟨b,(c.mem e).2 (fc ⟨Q,c.Sj.1 (f▸o)⟩),?_⟩;have:=R.lt E c;rw[f] at m;omega
   exact ft ⟨u,(c.mem e).2 (ft ⟨J,o⟩),m⟩
def Steps.head{a n:List GB}(s:Steps a n):a=n\/∃b t X T,dv a b t X T/\Steps (cf a b t X T) n:=by
 induction s with
 |refl=>exact fc rfl
 |step s c f=>
  rcases f with rfl|⟨b,t,X,T,d,m⟩;exact ft ⟨_,_,_,_,c,.refl _⟩;exact ft ⟨b,t,X,T,d,.step m c⟩
def Steps.one(c:dv bs b t X T):Steps bs (cf bs b t X T):=.step (.refl _) c
def alw:∀(m:Nat)(bs:List GB),zV bs<=m->∃n,Steps bs n/\∀x,wP n x
 |m,bs,f=>by
  by_cases h:∃b t X T,dv bs b t X T
  .have⟨b,t,X,T,c⟩:=h;have o:=c.less
   match m with
   |0=>omega
   |m+1=>
    have⟨n,s,no⟩:=alw m (cf bs b t X T) J;exact⟨n,(Steps.one c).trans s,no⟩
  exact⟨bs,.refl _,λx u s U c=>h ⟨x,u,s,U,c⟩⟩
def dv.same(f:dv bs b t X T)(c:dv bs b h A C):h=t/\A=X/\C=T:=by
 have h1:=c.hb;rw[f.hb] at h1;cases h1;have m:=c.to;rw[f.to] at m;have e:h=t:=by simp at m;omega
 subst e;have o:=c.ht;rw[f.ht] at o;cases o;exact⟨Q,Q,Q⟩
def an4:∀(m:Nat)(bs:List GB),zV bs<=m->EB bs->Rk bs r->∀V q,Steps bs V->Steps bs q->(∀x,wP V x)->(∀x,wP q x)->V=q:=by
 intro m;induction m with
 |zero=>
  intro bs M E R V q s o h1 w;rcases s.head with rfl|⟨b,t,X,T,c,_⟩;rcases o.head with rfl|⟨b,t,X,T,f,_⟩;rfl;exact absurd f (h1 _ _ _ _);have:=c.less;omega
 |succ m G=>
  intro bs M E R V q s o h1 w;rcases s.head with rfl|⟨b,t,X,T,c,s⟩;rcases o.head with rfl|⟨b,t,X,T,f,_⟩;rfl;exact absurd f (h1 _ _ _ _)
  .rcases o.head with rfl|⟨z,h,A,C,f,o⟩;exact absurd c (w _ _ _ _)
   .have M:=c.less;have M:=f.less;by_cases e:z=b
    subst e;obtain⟨rfl,rfl,rfl⟩:=c.same f;exact G _ J (c.eb E) (R.step E c) V q s o h1 w
    .obtain⟨O,d,M,M,S,N,g⟩:=c.swap f E e (R.nc E c f);have⟨I,M,a⟩:=alw _ _ (fE (zV (cf (cf bs b t X T) (mB b t z) h O d)));have W:=G _ J (c.eb E) (R.step E c) V I s ((Steps.one S).trans M) h1 a;have S:=G _ J (f.eb E) (R.step E f) q I o ((Steps.one N).trans (by rw[<-g];exact M)) w a;rw[W,S]
end
section
variable{g:List GB}{A:List Nat}{b t S r:Nat}{X T q h:GB}
def mL.gW(C:mL g A)(E:EB g)(q:A[i]?=Z k)(f:g[k]?=Z x){p:GP}(o:p∈x.aP)(e:Int×(Bool×Int)):e∈(aI (bu g A) i).zip (nM (aO (nI A)) (Y A) (aI g k) p).row↔ ∃y∈(aI g k).zip p.row,0<=aO (nI A) y.1/\e=(aO (nI A) y.1,y.2):=by
 have G:=E.rows k x f p o;have u:Uk (fM (aO (nI A)) ((aI g k).zip p.row)):=λa v w h1 f=>congrArg Prod.snd (UC (C.key k) _ h1 _ f Q);have m:∀y∈fM (aO (nI A)) ((aI g k).zip p.row),0<=y.1/\y.1<Y A:=λy I=>by obtain⟨z,M,c,rfl⟩:=u5.1 I;have⟨j,e,_⟩:=cu.1 (b8 (a:=z.1) (b:=z.2) M).1;refine⟨c,?_⟩;rcases C.o.place j with⟨i,_,f,N⟩|⟨_,f⟩;show aO (nI A) z.1<_;rw[e];omega;rw[e] at c;omega
 have c:=PR (n:=Y A) (fF (bu g A) i) u (λa=>?_) m;rw[show(nM (aO (nI A)) (Y A) (aI g k) p).row=fZ (fM (aO (nI A)) ((aI g k).zip p.row)) (Y A) from Q,c.1,u5];rw[C.keys E q G,iT];constructor;rintro⟨j,s,rfl⟩;have⟨_,v,c⟩:=rh.1 s;exact⟨v,(qY u).1 c⟩;rintro⟨v,c⟩;have:=m _ c;simp at this;exact⟨a.toNat,rh.2 ⟨J,v,(qY u).2 (by rw[show((a.toNat:Nat):Int)=a by omega];exact c)⟩,J⟩
def Dd(g:List GB)(A:List Nat):Prop:=∀(k:Nat)(x:GB),g[k]?=Z x->k∉A->x.to=[]
def mL.back(C:mL g A)(E:EB g)(D:Dd g A)(c:dv (bu g A) S r q h):∃b t X T,A[S]?=Z b/\A[r]?=Z t/\dv g b t X T/\q=eM (aO (nI A)) (Y A) (aI g b) X/\h=eM (aO (nI A)) (Y A) (aI g t) T:=by
 obtain⟨b,X,o,I,rfl⟩:=rM C.o c.hb;obtain⟨t,T,m,w,rfl⟩:=rM C.o c.ht;have h1:X.to.map (aO (nI A))=[(r:Int)]:=c.to;have⟨u,s⟩:∃u,X.to=[u]:=by
  match N:X.to with
  |[]=>rw[N] at h1;simp at h1
  |[u]=>exact⟨u,Q⟩
  |u::v::l=>rw[N] at h1;simp at h1
 obtain⟨i,v,rfl,M,L,_⟩:=C.RK E (cK o) I (t:=u) (by rw[s];simp);rw[s] at h1;have:r=i:=by simp at h1;omega
 subst this;rw[m] at M;cases M;refine⟨b,t,X,T,o,m,⟨I,w,c.k2,s,λe=>c.ne ?_,?_,?_⟩,Q,Q⟩;subst e;exact(ga (cR.mp m).1 C.o.nd).1 (m.trans o.symm);have:T.aP.map _=[]:=c.ph;exact List.map_eq_nil_iff.1 this
 .have d:=c.one
  match f:aI g t with
  |[]=>simp
  |[x]=>simp
  |x::y::l=>
   exfalso;have L:=eC g t;rw[f] at L;have j:x≠y:=λe=>(kI.1 L).1 (by rw[e];simp);have pos:∀z∈aI g t,∃a w:Nat,z=(w:Int)/\A[a]?=Z w/\(a:Int)∈aI (bu g A) r:=λz z=>by
    obtain⟨w,rfl,p,V,O⟩:=cu.1 z;have W:w∈A:=ix λP=>by have:=D w p V P;rw[this] at O;cases O
    have⟨a,f⟩:=iF W;exact⟨a,w,Q,f,(C.ahead E m).2 ⟨w,f,z⟩⟩
   obtain⟨O,p,rfl,H,p⟩:=pos x (by rw[f];simp);obtain⟨n,d,rfl,G,z⟩:=pos y (by rw[f];simp);have:O=n:=by have s:=c.only p;have D:=c.only z;omega
   subst this;rw[H] at G;cases G;exact j rfl
def mL.fwd(C:mL g A)(E:EB g)(D:Dd g A)(c:dv g b t X T):∃S r,dv (bu g A) S r (eM (aO (nI A)) (Y A) (aI g b) X) (eM (aO (nI A)) (Y A) (aI g t) T):=by
 have G:b∈A:=ix λh=>by have:=D b X c.hb h;rw[c.to] at this;cases this
 have⟨S,q⟩:=iF G;have⟨r,v,e,f,I,_⟩:=C.RK E G c.hb (t:=(t:Int)) (by rw[c.to];simp);have:v=t:=J
 subst this;refine⟨S,r,xM q c.hb,xM f c.ht,c.k2,by show X.to.map _=_;rw[c.to];simp[I],λe=>?_,by show T.aP.map _=[];rw[c.ph];rfl,?_⟩;subst e;rw[q] at f;cases f;exact c.ne rfl
 .match o:aI (bu g A) r with
  |[]=>simp
  |[x]=>simp
  |x::y::l=>
   exfalso;have d:=eC (bu g A) r;rw[o] at d;have m:x≠y:=λe=>(kI.1 d).1 (by rw[e];simp);have pos:∀z∈aI (bu g A) r,z=(S:Int):=λz s=>by obtain⟨a,rfl,z,N,M⟩:=cu.1 s;have⟨u,w,z⟩:=(C.ahead E f).1 s;have:=c.only z;subst this;have:=(ga (cR.mp w).1 C.o.nd).1 (w.trans q.symm);omega
   exact m ((pos x (by rw[o];simp)).trans (pos y (by rw[o];simp)).symm)
end
section
variable{g:List GB}{A:List Nat}{b t D r:Nat}{X T f c:GB}
def mL.dg(C:mL g A)(c:dv g b t X T):mL (cf g b t X T) A:=by
 refine⟨by rw[ig];exact C.o,C.z,λk y m q u f=>?_⟩;obtain⟨x,s,rfl⟩:=fT q;rw[dH] at f;split at f;cases f
 .split at f;rename_i e;subst e;have o:=C.cl k X m c.hb t (by rw[c.to];simp);simp at o;exact C.cl t T o c.ht u f
  exact C.cl k x m s u f
def Dd.step(D:Dd g A)(o:b∈A):Dd (cf g b t X T) A:=λk y m c=>by obtain⟨x,f,rfl⟩:=fT m;rw[dH];split;rfl;rw[bM (λe:k=b=>c (by rw[e];exact o))];exact D k x f c
def acq(C:mL g A)(E:EB g)(c:dv g b t X T)(B:A[D]?=Z b)(N:A[r]?=Z t)(a:dv (bu g A) D r (eM (aO (nI A)) (Y A) (aI g b) X) (eM (aO (nI A)) (Y A) (aI g t) T)):cf (bu g A) D r (eM (aO (nI A)) (Y A) (aI g b) X) (eM (aO (nI A)) (Y A) (aI g t) T)=bu (cf g b t X T) A:=by
 have F:=C.dg c;have S:=C.eb E;have l:=c.eb E;have h:Y (bu g A)=Y A:=by simp[bu]
 refine QN (F.eb l) (a.eb S) (by rw[ig,h];simp[bu]) λi v v h1 U=>?_;obtain⟨k,M,s,v,rfl⟩:=rM F.o h1;obtain⟨x,m,rfl⟩:=fT v;obtain⟨w,h,rfl⟩:=fT U;obtain⟨H,L,P,G,rfl⟩:=rM C.o h;rw[s] at P;cases P;rw[m] at G;cases G;have H:∀ {j u:Nat},A[j]?=Z u->(i=j↔k=u):=fun {j u} hj=>by constructor;intro e;subst e;rw[s] at hj;cases hj;rfl;intro e;subst e;exact(ga (cR.mp s).1 C.o.nd).1 (s.trans hj.symm)
 have O:=H N;have v:=H B;refine⟨?_,?_⟩
 .by_cases f:k=t;have o:=O.2 f;rw[uX f,uX o];exact⟨Q,Q,Q,Q⟩
  .have o:¬i=r:=λh=>f (O.1 h);by_cases z:k=b
   .have w:=v.2 z;have:x=X:=by rw[z,c.hb] at m;cases m;rfl
    subst this;simp only[eM,fD,dK,iv,dH,bM f,bM o,bH z,bH w];exact⟨trivial,trivial,trivial,trivial⟩
   have w:¬i=D:=λh=>z (v.1 h);simp only[eM,fD,dK,iv,dH,bM f,bM o,bM z,bM w];exact⟨trivial,trivial,trivial,trivial⟩
 .by_cases f:k=t;have o:=O.2 f;rw[uX f,uX o];exact⟨Q,λj p G h=>by simp[eM,tF] at h⟩
  .have o:¬i=r:=λh=>f (O.1 h);have P:(bu g A)[i]?=Z (eM (aO (nI A)) (Y A) (aI g k) x):=xM s m;rw[a.aP S P o];have z:(eM (aO (nI A)) (Y A) (aI (cf g b t X T) k) (dI g b t X T k x)).aP=(x.aP.map (uB g t b k)).map (nM (aO (nI A)) (Y A) (aI (cf g b t X T) k)):=by rw[<-c.aP E m f];rfl
   have h:(eM (aO (nI A)) (Y A) (aI g k) x).aP=x.aP.map (nM (aO (nI A)) (Y A) (aI g k)):=Q;rw[z,h];refine⟨ag,λj p G L H=>?_⟩;rw[gN,gu] at L H;obtain⟨q,n,rfl⟩:=cQ.1 L;rw[n] at H;cases H;have I:=cK n;refine⟨Q,λe H=>?_⟩;have h:uB g t b k q∈(dI g b t X T k x).aP:=by rw[c.aP E m f];exact QP I
   have w:nM (aO (nI A)) (Y A) (aI g k) q∈(eM (aO (nI A)) (Y A) (aI g k) x).aP:=QP I;obtain⟨M,V,d,rfl⟩:=(F.gW l s (gQ m) h e).1 H;obtain⟨y,W,rfl⟩:=(c.gW E m f I M).1 V;refine(a.gW S P o w _).2 ?_;by_cases M:y.1=t;refine⟨(aO (nI A) y.1,y.2),(C.gW E s m I _).2 ⟨y,W,by rw[M,C.o.pos N];omega,Q⟩,?_⟩;unfold iI;rw[bH M,bH (by show aO (nI A) y.1=_;rw[M,C.o.pos N])];show(aO (nI A) (b:Int),y.2)=_;rw[C.o.pos B]
   .have H:iI (t:Int) b y=y:=by unfold iI;rw[bM M]
    rw[H] at d⊢;refine⟨(aO (nI A) y.1,y.2),(C.gW E s m I _).2 ⟨y,W,d,Q⟩,?_⟩;unfold iI;rw[bM (λe=>?_)];have⟨u,P,_⟩:=cu.1 (b8 (a:=y.1) (b:=y.2) W).1;have U:aO (nI A) (u:Int)=r:=by rw[<-P];exact e
    rcases C.o.place u with⟨H,C,v,_⟩|⟨_,v⟩
    .have:r=H:=J
     subst this;rw[N] at C;cases C;exact M P
    omega
end
def ux(A C:List Nat):List Nat:=C.map λi=>(A[i]?).getD 0
section
variable{h:List GB}{A C:List Nat}
def Ju(c:C[i]?=Z j)(f:A[j]?=Z k):(ux A C)[i]?=Z k:=by unfold ux;rw[gu,c];simp[f]
def Qx(o:Ord (Y A) C)(c:(ux A C)[i]?=Z k):∃j,C[i]?=Z j/\A[j]?=Z k:=by unfold ux at c;rw[gu] at c;have⟨j,f,e⟩:=cQ.1 c;have:=o.lt j (cK f);refine⟨j,f,?_⟩;rw[iK this] at e⊢;simpa using e
def mL.comp(o:mL h A)(E:EB h)(s:mL (bu h A) C):mL h (ux A C):=by
 have f:Y (bu h A)=Y A:=by simp[bu]
 have q:Ord (Y A) C:=by rw[<-f];exact s.o
 have f:∀k∈ux A C,∃i j:Nat,C[i]?=Z j/\A[j]?=Z k:=λk c=>by have⟨i,G⟩:=iF c;have⟨j,a,b⟩:=Qx q G;exact⟨i,j,a,b⟩
 refine⟨⟨?_,λk c=>?_⟩,?_,λk x c M u I=>?_⟩;unfold ux;refine gw.2 (q.nd.imp_of_mem fun {a b} ha hb eF e=>eF ?_);have w:=q.lt a ha;have d:=q.lt b hb;rw[iK w,iK d] at e;exact(ga w o.o.nd).1 (by rw[iK w,iK d];simpa using e)
 have⟨i,j,_,m⟩:=f k c;exact o.o.lt k (cK m);exact Ju s.z o.z;have⟨i,j,G,m⟩:=f k c;obtain⟨O,v,rfl,V,N,_⟩:=o.RK E (cK m) M I;have:=s.cl j _ (cK G) (xM m M) (O:Int) (iT.2 ⟨_,I,N⟩);simp at this;have⟨n,S⟩:=iF this;exact cK (Ju S V)
def O9(f:mL h A)(E:EB h)(c:mL (bu h A) C):bu (bu h A) C=bu h (ux A C):=by
 have z:Y (bu h A)=Y A:=by simp[bu]
 have X:Ord (Y A) C:=by rw[<-z];exact c.o
 have s:=f.comp E c;have r:=f.eb E;have B:∀ {i j k:Nat},C[i]?=Z j->A[j]?=Z k->aO (nI (ux A C)) k=i:=λa b=>s.o.pos (Ju a b);refine QN (s.eb E) (c.eb r) (by simp[bu,ux]) λi D D h1 t=>?_;obtain⟨k,x,W,w,rfl⟩:=rM s.o h1;obtain⟨j,z,O,N,rfl⟩:=rM c.o t;obtain⟨b,b,P⟩:=Qx X W;rw[O] at b;cases b;have o:=xM P w;rw[N] at o;cases o;refine⟨⟨Q,Q,Q,?_⟩,by simp[eM],λm p d M G=>?_⟩
 simp only[eM];rw[gN];refine bf λu D=>?_;obtain⟨q,v,rfl,L,g,_⟩:=f.RK E (cK P) w D;have:=c.cl j _ (cK O) N (q:Int) (iT.2 ⟨_,D,g⟩);simp at this;have⟨n,F⟩:=iF this;show aO (nI C) (aO (nI A) (v:Int))=_;rw[g,c.o.pos F,B F L]
 .simp only[eM] at M G;rw[gN,gu] at G;rw[gu] at M;obtain⟨g,b,rfl⟩:=cQ.1 M;rw[b] at G;cases G;have q:=cK b;have D:Y (ux A C)=Y C:=by simp[ux]
  refine⟨Q,λe H=>?_⟩;obtain⟨y,B,t,rfl⟩:=(s.gW E W w q e).1 H;have H:nM (aO (nI A)) (Y A) (aI h k) g∈(eM (aO (nI A)) (Y A) (aI h k) x).aP:=QP q;refine(c.gW r O N H _).2 ?_;have⟨u,I,_⟩:=cu.1 (b8 (a:=y.1) (b:=y.2) B).1;rw[I] at t⊢;rcases s.o.place u with⟨n,D,V,_⟩|⟨_,V⟩
  have⟨t,S,F⟩:=Qx X D;refine⟨(aO (nI A) y.1,y.2),(f.gW E P w q _).2 ⟨y,B,by rw[I,f.o.pos F];omega,Q⟩,?_,?_⟩;show 0<=aO (nI C) (aO (nI A) y.1);rw[I,f.o.pos F,c.o.pos S];omega;show(aO (nI (ux A C)) (u:Int),y.2)=(aO (nI C) (aO (nI A) y.1),y.2);rw[I,f.o.pos F,c.o.pos S,V]
  omega
end
inductive CU:List GB->List GB->Prop
 |refl (a:List GB):CU a a
 |step {a g:List GB} {b t:Nat} {X T:GB} (s:CU a g) (c:dv g b t X T):CU a (bu (iW g b t T) (j7 (Y g) t))
def PA(E:EB g):mL g (aA (Y g)):=by refine⟨⟨ym,λx c=>QM.1 c⟩,?_,λk x _ c u f=>?_⟩;rw[lN (aw E.n1)];have:=E.to x (cK c) u f;exact QM.2 J
def agf(E:EB g):bu g (aA (Y g))=g:=by
 have C:=PA E;have w:∀k:Nat,k<Y g->aO (nI (aA (Y g))) (k:Int)=k:=λk c=>C.o.pos (lN c);refine QN E (C.eb E) (by simp[bu]) λi x y o N=>?_;obtain⟨k,z,c,q,rfl⟩:=rM C.o N;have M:=(cR.mp o).1;rw[lN M] at c;cases c;rw[o] at q;cases q;refine⟨⟨Q,Q,Q,?_⟩,by simp[eM],λm p q G q=>?_⟩
 .show x.to.map _=x.to
  conv=>rhs;rw[<-rk x.to]
  refine bf λu f=>?_;have:=E.to x (cK o) u f;obtain⟨v,rfl⟩:∃v:Nat,u=v:=⟨u.toNat,J⟩;exact w v J
 simp only[eM] at q;rw[gu,G] at q;cases q;refine⟨Q,λe I=>?_⟩;obtain⟨u,s,O,O,_⟩:=cu.1 (b8 (a:=e.1) (b:=e.2) I).1;have f:=(cR.mp O).1;exact(C.gW E (lN M) o (cK G) e).2 ⟨e,I,by rw[s,w u f];omega,by rw[s,w u f,<-s]⟩
def CU.Wt(s:CU u W)(E:EB u):∃g A,Steps u g/\EB g/\mL g A/\Dd g A/\W=bu g A:=by
 induction s with
 |refl=>
  refine⟨u,aA (Y u),.refl _,E,PA E,λk x q w=>?_,(agf E).symm⟩;exact absurd (QM.2 (cR.mp q).1) w
 | @step a a a S S s o V=>
  obtain⟨g,A,S,f,C,D,rfl⟩:=V;have I:=C.eb f;obtain⟨s,t,X,T,N,b,c,rfl,rfl⟩:=C.back f D o;have O:=acq C f c N b o;have M:=C.dg c;have G:=c.eb f;have L:=o.left I;rw[O] at L;have f:Y (bu g A)=Y A:=by simp[bu]
  refine⟨cf g s t X T,ux A (j7 (Y (bu g A)) a),S.trans (.one c),G,M.comp G L,λk x q w=>?_,?_⟩
  .by_cases h:k∈A;have⟨j,m⟩:=iF h;by_cases e:j=a;subst e;rw[b] at m;cases m;obtain⟨z,a,rfl⟩:=fT q;rw[uX rfl];rfl;have a:=(cR.mp m).1;have⟨i,b⟩:=iF (y9.2 ⟨(by rw[f];exact a:j<Y (bu g A)),e⟩);exact absurd (cK (Ju b m)) w
   exact D.step (cK N) k x q h
  rw[o.kept I,O,O9 M G L]
def CU.done{u W n:List GB}{f:Nat->Nat}(s:CU u W)(E:EB u)(R:Rk u f)(f:∀x,wP W x)(S:Steps u n)(no:∀x,wP n x):∃A,EB n/\mL n A/\W=bu n A:=by
 obtain⟨g,A,o,m,C,D,rfl⟩:=s.Wt E;have w:∀x,wP g x:=λx c X U c=>by obtain⟨q,q,q⟩:=C.fwd m D c;exact f _ _ _ _ q
 have e:=an4 _ u (fE _) E R g n o S w no;subst e;exact⟨A,m,C,Q⟩
def ajM(E:EB bs):Rk (bu bs (dU bs)) id:=λk C=>by
 have C:=E.Gu;have M:Y (bu bs (dU bs))=Y (dU bs):=by simp[bu]
 by_cases h:k<Y (dU bs);have⟨w,o,G⟩:=Ps E.ends E.n1 k J h;have⟨x,m⟩:=aR (dU bs) k h;have s:=C.o.lt x (cK m);have f:=E.ahead s;have⟨p,q,c⟩:=(Tree.rj m f).1 o;exact ft ⟨w,(C.ahead E m).2 ⟨p,q,c⟩,G⟩
 refine fc (oL.2 λa f=>?_);have⟨j,_,G,I,c⟩:=cu.1 f;have:=(C.eb E).to G (cK I) k c;omega
def Fa(out:List Bool)(v:Bool×Int):List Bool:=if v.1 then out.set v.2.toNat cd else out
def fu(out:List Bool)(a:List (Bool×Int)):List Bool:=a.foldl Fa out
def Vt(out:List Bool)(v:Bool×Int):Y (Fa out v)=Y out:=by unfold Fa;split<;>simp
def gL:∀(a:List (Bool×Int))(out:List Bool),Y (fu out a)=Y out
 |[],_=>rfl
 |v::a,out=>(gL a (Fa out v)).trans (Vt out v)
def gV(out:List Bool)(a o:List (Bool×Int)):fu out (a++o)=fu (fu out a) o:=List.foldl_append ..
def ahv{r:Nat}(c:Dy (Y out) v):(Fa out v)[r]?=Z cd↔out[r]?=Z cd\/v=(cd,(r:Int)):=by have⟨t,n⟩:=v;unfold Fa;cases t;simp;have:=c rfl;dsimp only at this⊢;rw[bH Q,fq];by_cases e:n.toNat=r;subst e;rw[bH Q,bH J];simp;right;omega;rw[bM e];simp;intro h;omega
def PH:∀ {vs:List (Bool×Int)} {out:List Bool} {r:Nat},(∀v∈vs,Dy (Y out) v)->((fu out vs)[r]?=Z cd↔out[r]?=Z cd\/(cd,(r:Int))∈vs)
 |[],out,r,_=>by simp[fu]
 |v::vs,out,r,h=>by show(fu (Fa out v) vs)[r]?=Z cd↔_;rw[PH (λw c=>by rw[Vt];exact h w (vU _ c)),ahv (h v (iz ..)),bd,or_assoc];constructor;rintro(a|a|a);exact fc a;exact ft (fc a.symm);exact ft (ft a);rintro(a|a|a);exact fc a;exact ft (fc a.symm);exact ft (ft a)
structure EZ(h0 h:aB)(aF Kc D nb:Nat)(out:List Bool):Prop where
 g:az aV h0 h
 n0:h0.ax<=nb
 hK:c_ h Kc [c6 (Z ⟨nb,0,K⟩) aF aF]
 hD:c_ h D [.func (.func 214) #[] #[dB (Z ⟨Kc,0,K⟩)]]
 hb:c_ h nb (tG.flat out)
 ln:Y out=aF
 ne:Kc≠nb/\D≠nb
section
variable{A h r:aB}{aF z D b:Nat}{out C:List Bool}
def EZ.grow(w:EZ A h aF z D b out)(g:az (· =b) h r)(s:c_ r b (tG.flat C))(f:Y C=aF):EZ A r aF z D b C:=by have⟨q,h1⟩:=w.hK;have⟨o,m⟩:=w.hD;have c:=w.g.ok;exact⟨w.g.trans' g aj (λx G e=>aw w.n0),w.n0,⟨q,g.get c h1 w.ne.1⟩,⟨o,g.get c m w.ne.2⟩,s,f,w.ne⟩
def EZ.cr(w:EZ A h aF z D b out)(g:az aV h r):EZ A r aF z D b out:=by have⟨s,c⟩:=w.hb;exact w.grow g.cr ⟨s,g.get w.g.ok c⟩ w.ln
def SG(aF b:Nat)(h:aB)(out:List Bool)(r:aB):Prop:=az (· =b) h r/\c_ r b (tG.flat out)
def KB(w:EZ A h aF z D b out)(S:Dy aF v)(f:aF<1000000):aY FF 214 [eU ⟨[dd v.1,dC ef v.2]⟩,dB (Z ⟨z,0,K⟩)] h (λ_ r=>SG aF b h (Fa out v) r):=by
 have⟨rg,n⟩:=v;have f:=w.g.ok;obtain⟨s,s⟩:=w.hK;have⟨N,m⟩:=w.hb;refine aY.of BG ?_;unfold sq;cases rg
 simp;have c:az aV h (aM h [dd b9,dC ef n] 0):=(az.refl f).new _ _;exact⟨c.cr,N,c.get f m⟩
 have⟨q,o⟩:=S rfl;dsimp only at q o;obtain⟨n,rfl⟩:∃G:Nat,n=G:=⟨n.toNat,J⟩;have O:n<aF:=J
 have I:=f.bU s;have G:=f.bU m;have q:n+1<=Y out:=by rw[w.ln];omega
 have W:¬h.ax=b:=aw G.lt
 have V:¬h.ax=z:=aw I.lt
 simp[O,bh,dO,cw,I,G,aD s,m,q,W,V,-ay];have c:az aV h (aM h [dd cd,dC ef n] 0):=(az.refl f).new _ _;have q:=c.get f m;have M:az (· =b) (aM h [dd cd,dC ef n] 0) (put (aM h [dd cd,dC ef n] 0) b n (tG.flat out) [dd cd] 0):=aX c.ok q;refine⟨c.cr.trans M,(aM h [dd cd,dC ef n] 0).clock,?_⟩;rw[bc,Vw out n cd J];simp[Fa]
end
def Zp:aG:=(.ops [⟨(Z 17),K,(.alloc va)⟩,⟨K,K,(.store 2 (.tmp 17) (.tmp 68))⟩])
def Ow:aG:=(.block 9 (.ops [⟨(Z 69),K,(.load K (.tmp 8))⟩,⟨(Z 70),K,(.load (Z 2) (.tmp 17))⟩,⟨(Z 71),K,(.call (.tmp 69) [(.tmp 70)])⟩]))
section
variable{S:aB}{aF r D C:Nat}
def EZ.re{h b:aB}{out a:List Bool}(w:EZ S h aF r D C out)(q:SG aF C h a b)(c:Y a=aF):EZ S b aF r D C a:=w.grow q.1 q.2 c
def ElJ(a:List (Bool×Int))(out:List Bool)(U:aB)(C:Nat)(e:Env)(_B j:Nat)(c:aB):Prop:=az (· =C) U c/\c.tr.get U.ax=Z (.loop e [68] Zp Ow .ready)/\c_ c C (tG.flat (fu out (a.take j)))
def ae4(w:cy S)(l:aF<1000000)(W:EZ S U aF r D C out){X O:Nat}{x:GI}{A:SV}(M:dR U X (jw x A) O)(L:X≠C)(i:ae vR 2 S A.v x.args)(t:Y x.args<1900000)(a:∀v∈eD x,Dy aF v)(t:cg e 8 D)(s:bX e 67=.func (.func 192) #[] #[dB (Z ⟨X,0,K⟩)])(I:∀T,SG aF C U (fu out (eD x)) T->m .normal e T):aN FF (.RO (.tmp 67) [68] Zp Ow) e U m:=by
 have pd:=W.g.ok;have G:=(pd.bU M).lt;have⟨y,z⟩:=W.hb;have V:=(pd.bU z).lt;have V:=W.n0;have⟨G,j⟩:=OP pd e [68] Zp Ow;have F:(U.new (.loop e [68] Zp Ow .ready)).ax=U.ax+1:=Q;refine aN.RO (first:= #[]) (caps:= #[dB (Z ⟨X,0,K⟩)]) (ak s) ?_;generalize U.new (.loop e [68] Zp Ow .ready)=hL at*;have d:∀c,az (· =C) U c->az aV S c:=λc g=>W.g.trans' g aj (λx h e=>J);have H:=MV (h:=hL) w i J (X:=X) (y:=.func (.yield U.ax) #[] #[]) (ElJ (eD x) out U C e) (λb=>b=C\/b=U.ax) (λ_=>False)
  (λ_ _ c o=>⟨d c o.1,O,o.1.get pd M L⟩)
  (λ_ _ c u o g=>by have⟨f,w,s,q⟩:=o;exact⟨f.trans g.cr,g.get f.ok w,s,g.get f.ok q⟩)
  (by rintro b (rfl|rfl)<;>omega) ?_ (W.g.trans G) ⟨O,G.get pd M⟩
  (λh1 g=>⟨(G.trans g).cr,g.get G.ok j,y,(G.trans g).get pd z⟩)
 .refine aY.mono (ak H) ?_;rintro v T o;have n:∃B:Nat,ElJ (eD x) out U C e B (Y (eD x)) T:=by
   first|exact o|exact⟨0,o⟩
  have⟨_,f,w,s,q⟩:=n;rw[mI] at q;unfold zI;rw[w];have P:az (· =U.ax) T (Iw T U.ax):=kT f.ok U.ax;exact I _ ⟨f.trans' P aj (λx h e=>J),s,P.get f.ok q J⟩
 .rintro y k v c A j y⟨f,w,q⟩;have p:=a v (cK A);refine(My (S:=λb=>b=C) (Kp:=λT=>az (· =C) U T/\c_ T C (tG.flat (fu out ((eD x).take (k+1))))) (ZE:=λ_=>False) f.ok J w ?_ ?_ (λ_ _ d=>d.elim)).mono ?_
  .unfold Zp;simp;have G:az aV c (put (aM c [dd b9,dC ef 0] 0) c.ax 0 [dd b9,dC ef 0] [dd v.1,dC ef v.2] 0):=(az.refl f.ok).var _ _;have j:(put (aM c [dd b9,dC ef 0] 0) c.ax 0 [dd b9,dC ef 0] [dd v.1,dC ef v.2] 0).tr.get c.ax=Z (.ch [dd v.1,dC ef v.2] b9 0 c.clock):=ag
   generalize put (aM c [dd b9,dC ef 0] 0) c.ax 0 [dd b9,dC ef 0] [dd v.1,dC ef v.2] 0=u at*;refine⟨G,λE O=>?_⟩;have L:U.ax<c.ax:=f.ok.wf _ _ w;have L:az (· =C) U E:=(f.trans G.cr).trans' O aj (λx h e=>J);have⟨c,q⟩:=q;have M:EZ S E aF r D C (fu out ((eD x).take k)):=W.grow L ⟨c,O.get G.ok (G.get f.ok q) J⟩ (by rw[gL];exact W.ln);have y:=O.get G.ok j J;have⟨f,V⟩:=M.hD;unfold Ow;simp[t,V,y];refine bm.fB (V:=λ_ T=>SG aF C E (Fa (fu out ((eD x).take k)) v) T) ?_ ?_
   have z:dQ FF (.func (.func 214) #[] #[dB (Z ⟨r,0,K⟩)]) [eU ⟨[dd v.1,dC ef v.2]⟩] E (λ_ T=>SG aF C E (Fa (fu out ((eD x).take k)) v) T):=dQ.func (ak (KB M p l));simpa using z;rintro _ l⟨j,w,P⟩;simp;exact⟨j,L.trans j,w,by rw[mw,A,gV];exact P⟩
  rintro E l⟨a,s,P⟩ _ g;exact⟨a.trans' g aj (λx h e=>J),s,g.get a.ok P J⟩;rintro O l⟨j,⟨rfl,N,q,n⟩|⟨_,_,z⟩⟩;exact⟨j.cX (λb _ d=>fc d),fc ⟨Q,q,N,n⟩⟩;exact z.elim
end
def zf(pk:List Int)(row:List (Bool×Int))(b:Int):List (Bool×Int):=((pk.zip row).filter (·.1≠b)).map (·.2)
def acM{b a:Int}(h1:pk[j]?=Z a)(c:row[j]?=Z v):zf (pk.take (j+1)) (row.take (j+1)) b=zf (pk.take j) (row.take j) b++(if a=b then [] else [v]):=by have m:=(cR.mp h1).1;have f:=(cR.mp c).1;unfold zf;rw[mw,mw,h1,c,List.zip_append (by simp;omega),e6,aW];by_cases e:a=b<;>simp[e]
def agN{b:Int}(h:v∈zf pk row b):v∈row:=by unfold zf at h;obtain⟨x,c,rfl⟩:=iT.1 h;exact(b8 (a:=x.1) (b:=x.2) (EG.1 c).1).2
section
variable{z:aB}{aF h D r:Nat}
def aqo:List Nat:=[13,14]++(aA 19).map (· +40)
def awP(aF r:Nat)(U:aB)(out:List Bool)(pk:List Int)(row:List (Bool×Int))(b:Int)(e:Env)(m:Nat)(a:Env)(c:aB):Prop:=
 ∃j:Nat,m=Y row-j/\j<=Y row/\aH aqo e a/\bz a 40 j/\SG aF r U (fu out (zf (pk.take j) (row.take j) b)) c
def aiQ(y:cy z)(hr:aF<1000000)(W:EZ z U aF h D r out)(x:jm encI V z d o I)(C:I[i]?=Z pk)(hL:L=Y I){P:SV}(sA:ae vR 2 z P.v row)(hl:Y row=Y pk)(w_:Y row<1000000)(hv:∀v∈row,Dy aF v){b:Int}(f1:bX e 1=c6 (Z ⟨d,0,K⟩) L L)(f2:bz e 2 b)(f8:cg e 8 D)(f9:bz e 9 i)(f38:bX e 38=P.v)(f39:bz e 39 (Y row))(f40:bz e 40 0)(C':∀B c,aH aqo e B->SG aF r U (fu out (zf pk row b)) c->m (.exit 4) B c):aN FF (.loop lh) e U m:=by
 have pD:=ae.len sA;have om:=(cR.mp C).1;have⟨p,Gi⟩:=aR o i (by rw[x.len];exact om);have w':bj encI z p.v pk:=(x.acc i p pk Gi C).sl;have⟨sd,OW⟩:=x.ch;have Sz:p.l=Y pk:=by have⟨a,M,e,_⟩:=id w';simp at e;exact e.2.1
 have⟨sB,hB⟩:=W.hb;refine aN.loop (awP aF r U out pk row b e) ?_ (n:=Y row) ⟨0,Q,J,aH.refl _ _,f40,.refl W.g.ok,sB,hB⟩;rintro m' B c⟨j,rfl,hj,u,M,q⟩;have YL:∀v∈zf (pk.take j) (row.take j) b,Dy (Y out) v:=λv h1=>by rw[W.ln];exact hv v (Xp (agN h1))
 have s:EZ z c aF h D r (fu out (zf (pk.take j) (row.take j) b)):=W.re q (by rw[gL];exact W.ln);have l:=s.g.ok;have q1:=u.at (t:=1) f1;have q2:=u.at (t:=2) f2;have F:=u.at (t:=8) f8;have q9:=u.at (t:=9) f9;have t:=u.at (t:=38) f38;have N:=u.at (t:=39) f39;unfold lh;by_cases G:j<Y row
 .have T:=bZ ((j:Int)+1) J J;have⟨v,n⟩:=aR row j G;have⟨a,J'⟩:=aR pk j;obtain⟨bA,agK,cA,DK,_,_,rfl,oA,HC⟩:=ae.later y sA n;have X:=HC c s.g 0 2 ai;have E:=s.g.get y OW;have H:=tR E Gi;have⟨bW,Rp,Ql,O,_,⟨cW,roW,oW,stW,hWb⟩,O'⟩:=(w'.cr y s.g).read J';have rW:=O' 0 1 ai;simp[-ay] at X rW H O;simp at t;rw[DK,pD] at t;have k:=acM (b:=b) J' n;have ZE:=s.g.bU oA;have od:=l.bU E;have oW':=l.bU hWb;simp[q1,q2,F,q9,t,N,M,G,X,H,rW,hL,om,O.1,Sz,hl▸G,ZE,od,oW',-ay,bh,aJ,cw];refine aN.cut (λg=>az aV c g/\c_ g c.ax [dd v.1,dC ef v.2]) ⟨(az.refl l).var _ _,⟨c.clock,by simp[bg]⟩⟩ ?_;rintro g⟨A,s2,hX⟩;have w:=s.cr A;have⟨s3,qn⟩:=w.hb;by_cases f:a=b
  .rw[bH f,ye] at k;simp[f,M,T];refine⟨Y row-(j+1),J,j+1,Q,G,?_,ag,q.1.trans A.cr,s3,by rw[k];exact qn⟩
   exact au
  .rw[bM f] at k;have e2:(a !=b)=cd:=by simp[f]
   have⟨sD,hD2⟩:=w.hD;simp[e2,F,M,hD2,hX];refine bm.fB (V:=λ_ S=>SG aF r g (Fa (fu out (zf (pk.take j) (row.take j) b)) v) S) ?_ ?_;have V1:dQ FF (.func (.func 214) #[] #[dB (Z ⟨h,0,K⟩)]) [eU ⟨[dd v.1,dC ef v.2]⟩] g (λ_ S=>SG aF r g (Fa (fu out (zf (pk.take j) (row.take j) b)) v) S):=dQ.func (ak (KB w (hv v (cK n)) hr));simpa using V1;rintro _ S⟨g3,s4,JC⟩;simp[M,T];refine⟨Y row-(j+1),J,j+1,Q,G,?_,ag,(q.1.trans A.cr).trans g3,s4,by rw[k,gV];exact JC⟩
   exact au
 .have:j=Y row:=J
  subst this;have f:pk.take (Y row)=pk:=nz J;rw[mI,f] at q;simp[N,M];exact C' _ _ (aH.set u) q
end
def uV(pk:List Int)(ps:List GP)(b:Int):List (Bool×Int):=ps.flatMap λp=>zf pk p.row b
def acL{b:Int}{p:GP}(h:ps[j]?=Z p):uV pk (ps.take (j+1)) b=uV pk (ps.take j) b++zf pk p.row b:=by unfold uV;rw[mw,h,List.flatMap_append];simp
section
variable{h:aB}{aF z D r:Nat}
def aqn:List Nat:=[12,13,14]++(aA 26).map (· +33)
def awO(aF r:Nat)(U:aB)(out:List Bool)(pk:List Int)(ps:List GP)(b:Int)(e:Env)(m:Nat)(a:Env)(c:aB):Prop:=
 ∃j:Nat,m=Y ps-j/\j<=Y ps/\aH aqn e a/\bz a 33 j/\SG aF r U (fu out (uV pk (ps.take j) b)) c
def ae3(n:cy h)(hr:aF<1000000)(W:EZ h U aF z D r out)(C:jm encI V h d o I)(T:I[i]?=Z pk)(hL:L=Y I){P:SV}(c:ae (pR h) 2 h P.v ps)(t:∀p∈ps,Y p.row=Y pk)(w_:Y pk<1000000)(k:Y ps<1000000)(hv:∀p∈ps,∀v∈p.row,Dy aF v){b:Int}(k:bX e 1=c6 (Z ⟨d,0,K⟩) L L)(E:bz e 2 b)(S:cg e 8 D)(O:bz e 9 i)(x:bX e 31=P.v)(g:bz e 32 (Y ps))(q:bz e 33 0)(G:∀N a,aH aqn e N->SG aF r U (fu out (uV pk ps b)) a->m (.exit 2) N a):aN FF (.loop lq) e U m:=by
 have y:=ae.len c;have⟨f,s⟩:=W.hb;refine aN.loop (awO aF r U out pk ps b e) ?_ (n:=Y ps) ⟨0,Q,J,aH.refl _ _,q,.refl W.g.ok,f,s⟩;rintro f N a⟨j,rfl,f,u,f,q⟩;have s:EZ h a aF z D r (fu out (uV pk (ps.take j) b)):=W.re q (by rw[gL];exact W.ln);have F:=s.g.ok;have X:=u.at (t:=1) k;have q2:=u.at (t:=2) E;have q8:=u.at (t:=8) S;have S:=u.at (t:=9) O;have k:=u.at (t:=31) x;have x:=u.at (t:=32) g;unfold lq;by_cases g:j<Y ps
 .have E:=bZ ((j:Int)+1) J J;have⟨p,O⟩:=aR ps j g;obtain⟨M,M,M,M,_,_,⟨A,rfl,l⟩,B,H⟩:=ae.later n c O;have w:=H a s.g 0 2 ai;simp[-ay] at w;simp at k;rw[M,y] at k;have y:=ae.len l;have c:=cK O;have H:=acL (pk:=pk) (b:=b) O;have M:=s.g.bU B;simp[k,x,f,g,w,y,M,-ay,bh,aJ,cw];refine aN.cut (λw=>az aV a w/\c_ w a.ax [dC ef p.dst,c6 A.a (Y p.row) A.c]) ⟨(az.refl F).var _ _,⟨a.clock,by simp[bg]⟩⟩ ?_;rintro w⟨w,a,a⟩;have a:=s.cr w;refine aiQ (b:=b) n hr a C T hL l (t p c) (by rw[t p c];exact w_) (hv p c) (av X) (av q2) (av q8) (av S) (av y) ag ag ?_;intro y y c ⟨t,X,y⟩;have S:=c.at (t:=33) (aq f);simp[S,E];refine⟨Y ps-(j+1),J,j+1,Q,g,?_,ag,(q.1.trans w.cr).trans t,X,by rw[H,gV];exact y⟩;refine aH.set (aH.set (aH.trans ?_ (c.cX)))
  exact au
 .have:j=Y ps:=J
  subst this;rw[mI] at q;simp[x,f];exact G _ _ (aH.set u) q
end
section
variable{r:aB}{aF z D b:Nat}
def aqm:List Nat:=[16,17]++(aA 12).map (· +62)
def awN(aF b:Nat)(U:aB)(out:List Bool)(a:List GI)(e:Env)(m:Nat)(c:Env)(d:aB):Prop:=
 ∃j:Nat,m=Y a-j/\j<=Y a/\aH aqm e c/\bz c 62 j/\SG aF b U (fu out ((a.take j).flatMap eD)) d
def ae2(d:cy r)(l:aF<1000000)(W:EZ r U aF z D b out){a:List GI}{L:SV}(f:ae (iR r) 8 r L.v a)(g:∀x∈a,Y x.args<1900000/\∀v∈eD x,Dy aF v)(s:Y a<1000000)(s:cg e 8 D)(G:bX e 60=L.v)(O:bz e 61 (Y a))(w:bz e 62 0)(C:∀N c,aH aqm e N->SG aF b U (fu out (a.flatMap eD)) c->m (.exit 6) N c):aN FF (.loop lg) e U m:=by
 have p:=ae.len f;have⟨M,q⟩:=W.hb;refine aN.loop (awN aF b U out a e) ?_ (n:=Y a) ⟨0,Q,J,aH.refl _ _,w,.refl W.g.ok,M,q⟩;rintro q N c⟨j,rfl,q,u,M,q⟩;have w:EZ r c aF z D b (fu out ((a.take j).flatMap eD)):=W.re q (by rw[gL];exact W.ln);have t:=w.g.ok;have t:=u.at (t:=8) s;have o:=u.at (t:=60) G;have s:=u.at (t:=61) O;unfold lg;by_cases G:j<Y a
 .have i:=bZ ((j:Int)+1) J J;have S:a[j]?=Z a[j]:=iK G;have A:=IB G;generalize a[j]=x at S A;have⟨O,n⟩:=g x A;obtain⟨g,g,g,g,_,_,⟨A,rfl,k⟩,h,h⟩:=ae.later d f S;have f:=h c w.g 0 8 ai;simp[aQ,-ay] at f;simp at o;rw[g,p] at o;simp[o,s,M,G,f,-ay,aJ];refine bm.cut (λf=>az aV c f/\c_ f c.ax (jw x A)) ?_ ?_
  exact⟨(az.refl w.g.ok).var _ _,_,bc _ _ _ _ _ _⟩;rintro f⟨h,g,g⟩;have I:=w.cr h;refine bm.call (V:=λv c=>v=.func (.func 192) #[] #[dB (Z ⟨f.ax,0,K⟩)]/\c=aM f (jw x A) 0) (by simpa [jw,aQ] using PN f x A) ?_;rintro _ w⟨rfl,c⟩;have g:az aV f w:=by rw[c];exact aZ I.g.ok _ _
  have p:w.tr.get f.ax=Z (.ch (jw x A) b9 0 0):=by rw[c];exact bY _ _ _
  clear c;have c:=I.cr g;have A:b<f.ax:=by have⟨_,f⟩:=I.hb;exact I.g.ok.wf _ _ f
  simp;refine ae4 d l c p J k O n (av t) ag ?_;intro k ⟨k,d,c⟩;simp[M,i];refine⟨Y a-(j+1),J,j+1,Q,G,?_,ag,((q.1.trans h.cr).trans g.cr).trans k,d,by rw[Cz S,gV];exact c⟩
  exact au
 .have:j=Y a:=J
  subst this;rw[mI] at q;simp[s,M];exact C _ _ (aH.set u) q
end
def Dr(bs:List GB)(b i:Nat)(x:GB):List (Bool×Int):=uV (aI bs i) x.aP b++x.list.flatMap eD++(if i=b then [] else [x.on])
def pZ(bs:List GB)(b:Nat):Nat->List (Bool×Int)
 |0=>[]
 |n+1=>pZ bs b n++((bs[n]?).map (Dr bs b n)).getD []
section
variable{A:aB}{aF h D r:Nat}
def alO:List Nat:=[9,10,12,13,14,16,17]++(aA 57).map (· +25)
def awM(aF r:Nat)(U:aB)(out:List Bool)(bs:List GB)(b:Nat)(e:Env)(m:Nat)(a:Env)(c:aB):Prop:=
 ∃j:Nat,m=Y bs-j/\j<=Y bs/\aH alO e a/\bz a 25 j/\SG aF r U (fu out (pZ bs b j)) c
def Xe(w:cy A)(t:aF<1000000)(W:EZ A U aF h D r out)(w1:jm encI V A d o (Edge.dm (cx bs)))(n:mm A B bs)(E:EB bs)(ZE:∀x∈bs,Hb x)(l:PY aF bs){b:Nat}(O:bX e 1=c6 (Z ⟨d,0,K⟩) (Y bs) (Y bs))(M:bz e 2 b)(f:cg e 8 D)(z:bX e 23=B.v)(v:bz e 24 (Y bs))(G:bz e 25 0)(C':∀i a,aH alO e i->SG aF r U (fu out (pZ bs b (Y bs))) a->m (.exit 0) i a):aN FF (.loop lu) e U m:=by
 have F:=ae.len n;have g:=E.n50;have⟨g,q⟩:=W.hb;refine aN.loop (awM aF r U out bs b e) ?_ (n:=Y bs) ⟨0,Q,J,aH.refl _ _,G,.refl W.g.ok,g,q⟩;rintro q i a⟨j,rfl,i,u,i,q⟩;have G:EZ A a aF h D r (fu out (pZ bs b j)):=W.re q (by rw[gL];exact W.ln);have g:=G.g.ok;have q1:=u.at (t:=1) O;have O:=u.at (t:=2) M;have M:=u.at (t:=8) f;have f:=u.at (t:=23) z;have z:=u.at (t:=24) v;unfold lu;by_cases I:j<Y bs
 .have v:=bZ ((j:Int)+1) J J;have⟨x,S⟩:=aR bs j I;have c:=cK S;obtain⟨k,k,k,k,_,_,⟨P,L,T,rfl,s,C,H⟩,H,X⟩:=ae.later w n S;have n:=X a G.g 0 6 ai;simp[-ay] at n;simp at f;rw[k,F] at f;have F:=ae.len s;have X:=ae.len C;have k:=G.g.bU H;simp[f,z,i,I,n,k,F,-ay,bh,aJ,cw];refine aN.cut (λf=>az aV a f/\c_ f a.ax [c6 P.a (Y x.aP) P.c,L.v,dC ef x.kind,dd x.on.1,dC ef x.on.2,T.v]) ⟨(az.refl g).var _ _,⟨a.clock,by simp[bg]⟩⟩ ?_;rintro f⟨H,f,hX⟩;have n:=G.cr H;have f:r<a.ax:=by have⟨_,h1⟩:=G.hb;exact G.g.ok.wf _ _ h1
  have G:=E.ahead I;have g:=ZE x c;have f:=(l.ph x c).2;have k:=(l.li x c).2;refine ae3 (b:=(b:Int)) (L:=Y bs) w t n w1 G (by rw[Edge.iV];simp[cx]) s (λp G=>E.rows j x S p G) (aw (h_ bs j)) (aw g.lp) (λp G=>(f p G).2.2) (av q1) (av O) (av M) ag (av F) ag ag ?_;intro F h3 s f;have G:EZ A h3 aF h D r (fu (fu out (pZ bs b j)) (uV (aI bs j) x.aP b)):=n.re f (by rw[gL,gL];exact W.ln);have k2:=s.at (t:=2) (aq O);have O:=s.at (t:=8) (aq M);have k9:bX F 9=dC ef j:=s.at ag;have M:cg F 10 a.ax:=s.at ag;have k25:=s.at (t:=25) (aq i);have N:=f.1.get n.g.ok hX J;simp[X] at N;have n:=G.g.ok.bU N;simp[M,N,aD N,-ay];refine ae2 w t G C (λy w=>⟨(k y w).2.1,(k y w).2.2⟩) (aw g.ll) (av O) (av X) ag ag ?_;intro e4 a w n;have k:EZ A a aF h D r (fu (fu (fu out (pZ bs b j)) (uV (aI bs j) x.aP b)) (x.list.flatMap eD)):=G.re n (by rw[gL,gL,gL];exact W.ln);have C:=w.at (t:=2) (aq k2);have X:=w.at (t:=8) (aq O);have F:=w.at (t:=9) (aq k9);have m10:=w.at (t:=10) (aq M);have g:=w.at (t:=25) (aq k25);have M:=n.1.get G.g.ok N J;have O:aH alO e e4:=by
   refine aH.trans ?_ (w.cX)
   repeat (refine aH.set ?_)
   refine aH.trans ?_ (s.cX)
   exact au
  have O:pZ bs b (j+1)=pZ bs b j++(uV (aI bs j) x.aP b++x.list.flatMap eD++(if j=b then [] else [x.on])):=by show pZ bs b j++((bs[j]?).map (Dr bs b j)).getD []=_;rw[S];rfl
  have s:az (· =r) U a:=((q.1.trans H.cr).trans f.1).trans n.1;have⟨n,H⟩:=k.hb;by_cases S:j=b
  .rw[bH S,ye] at O;have f:((j:Int) !=(b:Int))=b9:=by simp[S]
   simp[C,F,g,f,v];refine⟨Y bs-(j+1),J,j+1,Q,I,?_,ag,s,n,by rw[O,gV,gV];exact H⟩
   exact au
  .rw[bM S] at O;have f:((j:Int) !=(b:Int))=cd:=by simp;omega
   obtain⟨S,S⟩:=k.hD;simp[C,X,F,m10,g,f,S,M];refine bm.fB (V:=λ_ S=>SG aF r a (Fa (fu (fu (fu out (pZ bs b j)) (uV (aI bs j) x.aP b)) (x.list.flatMap eD)) x.on) S) ?_ ?_;have f:dQ FF (.func (.func 214) #[] #[dB (Z ⟨h,0,K⟩)]) [eU ⟨[dd x.on.1,dC ef x.on.2]⟩] a (λ_ S=>SG aF r a (Fa (fu (fu (fu out (pZ bs b j)) (uV (aI bs j) x.aP b)) (x.list.flatMap eD)) x.on) S):=dQ.func (ak (KB k (l.on x c) t));simpa using f;rintro _ S⟨f,t,S⟩;simp[g,v];refine⟨Y bs-(j+1),J,j+1,Q,I,?_,ag,s.trans f,t,by rw[O,gV,gV,gV];exact S⟩
   exact au
 .have:j=Y bs:=J
  subst this;simp[z,i];exact C' _ _ (aH.set u) q
end
def aqp(a:Nat)(bs:List GB)(d:Nat)(h:aB)(v:aa)(c:aB):Prop:=
 az aV h c/\∃b,v=c6 (Z ⟨b,0,K⟩) a a/\h.ax<=b/\c_ c b (tG.flat (fu (an a b9) (pZ bs d (Y bs))))
def KC{h:aB}(s:cy h){name:ByteArray}{p:Int}{a:Nat}(f:a<1000000)(c:jm encI V h d o (Edge.dm (cx bs)))(G:mm h B bs)(E:EB bs)(O:∀x∈bs,Hb x)(e:PY a bs){b:Nat} :aY FF 157 [eU ⟨aC name p a B⟩,c6 (Z ⟨d,0,K⟩) (Y bs) (Y bs),dC ef b] h (aqp a bs b h):=by
 have I:=ae.len G;have M:roomy a=cd:=by simp[roomy];omega
 have w:jG [Value.bool b9] a=tG.flat (an a b9):=RF tG b9 rfl a;refine aY.of Ed ?_;unfold vp;have q:¬h.ax=h.ax+1+1:=J
 have N:¬h.ax+1=h.ax+1+1:=J
 have S:¬h.ax=h.ax+1+1+1:=J
 simp[aC,M,w,q,N,S,I];refine aN.cut (λh1=>EZ h h1 a (h.ax+1+1) (h.ax+1+1+1) (h.ax+1) (an a b9)) ?_ ?_
 .have w:az aV h (aM (put (aM (aM (aM h [eT name,dC ef p,dC ef a,c6 B.a (Y bs) B.c] 0) (tG.flat (an a b9)) 0) [c6 K 0 0] 0) (h.ax+1+1) 0 [c6 K 0 0] [c6 (Z ⟨h.ax+1,0,K⟩) a a] 0) [.nilFunc] 0):=((((az.refl s).new _ _).new _ _).var _ _).new _ _;have a:=w.put (b:=h.ax+1+1+1) (off:=0) (cs:=[.nilFunc]) (o:=0) (vs:=[.func (.func 214) #[] #[dB (Z ⟨h.ax+1+1,0,K⟩)]]) ⟨0,ag⟩ (fc J);have w:¬h.ax+1+1+1=h.ax+1+1:=J
  have m:¬h.ax+1+1+1=h.ax+1:=J
  have q:¬h.ax+1+1=h.ax+1:=J
  exact⟨a,J,⟨h.clock,by simp[bg,w,m,q]⟩,⟨_,bc _ _ _ _ _ _⟩,⟨0,by simp[w,m,q]⟩,ag,J,J⟩
 intro h1 W;refine Xe s f W c G E O e (b:=b) ag ag ag (av I) ag ag ?_;intro b G G f;have c:=W.re f (by rw[gL];exact W.ln);obtain⟨f,f⟩:=c.hK;have O:cg b 7 (h.ax+1+1):=G.at ag;simp[O,f];exact⟨c.g,_,Q,c.n0,c.hb⟩
def aqi:List Nat:=[9,11]++(aA 20).map (· +78)
def awF(h1:aB)(c:Int)(P:List (Int×(Bool×Int)))(e:Env)(m:Nat)(a:Env)(b:aB):Prop:=
 ∃(j:Nat) (L:SV),m=Y P-j/\j<=Y P/\aH aqi e a/\bX a 9=L.v/\bz a 11 j/\az aV h1 b/\bx fG h1.ax b L.v ((P.take j).filter (·.1≠c))
def WY(h:cy h1){b:Int}(S:bj fG h1 E.v P)(s:Y P<1000000)(s:bz e 4 b)(O:bX e 10=E.v)(f:bX e 9=cU.v)(V:bz e 11 0)(C:∀G c (L:SV),aH aqi e G->bX G 9=L.v->az aV h1 c->bx fG h1.ax c L.v (P.filter (·.1≠b))->m (.exit 4) G c):aN FF (.loop ni) e h1 m:=by
 have q:E.l=Y P:=by have⟨a,k,e,_⟩:=id S;simp at e;exact e.2.1
 refine aN.loop (awF h1 b P e) ?_ (n:=Y P) ⟨0,cU,Q,J,aH.refl _ _,f,V,.refl h,fc ⟨Q,Q⟩⟩;rintro f G c⟨j,L,rfl,G,u,N,G,g,f⟩;have k:=g.ok;have i:=u.at (t:=4) s;have o:=u.at (t:=10) O;unfold ni;by_cases s:j<Y P
 .have d:=bZ ((j:Int)+1) J J;have⟨x,l⟩:=aR P j s;obtain⟨w,w,w,w,_,_,M⟩:=(S.cr h g).read l;have S:=M 0 1 ai;have W:=M 0 3 ai;simp[-ay] at S W w;simp at o;rw[w.1,q] at o;have I:(P.take (j+1)).filter (·.1≠b)=(P.take j).filter (·.1≠b)++(if x.1=b then [] else [x]):=by rw[mw,l,e6];by_cases e:x.1=b<;>simp[e]
  have l:Y ((P.take j).filter (·.1≠b))<=Y (P.take j):=NN _ _;have l:Y (P.take j)<=j:=by simp;omega
  have l:=g.ax;by_cases M:x.1=b
  .rw[bH M,ye] at I;simp[M,i,o,G,s,S,d,-ay];refine⟨Y P-(j+1),J,j+1,L,Q,s,?_,av N,ag,g,by rw[I];exact f⟩
   exact au
  .rw[bM M] at I;have l:(x.1 !=b)=cd:=by simp[M]
   simp[l,i,N,o,G,s,S,W,-ay];have S:=aZ k (fG.enc x) 0;have i:=f.grow k S aj;have k:bj fG (aM c (fG.enc x) 0) (c6 (Z ⟨c.ax,0,K⟩) 1 1) [x]:=dx (bY _ _ _);have l:(aM c (fG.enc x) 0).ax=c.ax+1:=Q;obtain⟨c,c,l,c,M,_⟩:=fI (bytes:=24) S.ok (z:=[dC ef 0,dd b9,dC ef 0]) rfl i k J ai J;obtain⟨k,rfl⟩:=bx.Fj c;refine df (ak l) ?_;simp[G,d];refine⟨Y P-(j+1),J,j+1,k,Q,s,?_,ag,ag,(g.trans S).trans' M aj (λM M e=>aw (f.of e)),by rw[I];exact c⟩
   exact au
 .have:j=Y P:=J
  subst this;rw[mI] at f;simp at o;rw[q] at o;simp[o,G];refine C _ _ L ?_ (av N) g f
  exact au
def NK(pk:List Int)(bU:Int)(b:GB):GB:= {b with aP:=b.aP.map λp=>⟨p.dst,fQ p.row (aO pk bU).toNat⟩}
def Dh(bs:List GB)(bU:Int)(to:List Int):List GB:=bs.mapIdx λi b=>if(i:Int)∈to then NK (aI bs i) bU b else b
def Cv{b:GB}(h:bs[i]?=Z b):(Dh bs bU to)[i]?=Z (if(i:Int)∈to then NK (aI bs i) bU b else b):=by unfold Dh;rw[bn,h];rfl
def FU(bs:List GB)(bU:Int)(to:List Int):Y (Dh bs bU to)=Y bs:=by simp[Dh]
def abt{i u:Nat}{b:GB}(h:to[i]?=Z (u:Int))(c:bs[u]?=Z b)(f:(u:Int)≠to1):Dh bs bU ((to.take (i+1)).filter (· ≠to1))=(Dh bs bU ((to.take i).filter (· ≠to1))).set u (NK (aI bs u) bU b):=by
 refine Bc λm=>?_;rw[fq];have o:=(cR.mp c).1;by_cases e:u=m
 subst e;rw[bH Q,bH (by rw[FU];exact o),Cv c,bH (by rw[mw,h];simp[f])]
 .rw[bM e];unfold Dh;rw[bn,bn];congr 1;funext b';have:((m:Int)∈(to.take (i+1)).filter (· ≠to1))↔((m:Int)∈(to.take i).filter (· ≠to1)):=by rw[mw,h];simp;omega
  simp only[this]
def abr(h:to[i]?=Z to1):Dh bs bU ((to.take (i+1)).filter (· ≠to1))=Dh bs bU ((to.take i).filter (· ≠to1)):=by rw[mw,h];simp
def zU(bs:List GB)(b:Nat)(r:GB)(to1:Int):List GB:=
 let d:=Dh bs b (r.to.filter (· ≠to1))
 d.set b {(d[b]?).getD r with kind:=2,on:=(b9,0),to:=[to1]}
def FV{b:Int}(d:pk.Nodup)(m:Y row=Y pk)(c:pk[k]?=Z b):(pk.filter (· ≠b)).zip (fQ row k)=(pk.zip row).filter (·.1≠b):=by
 induction pk generalizing row k with
 |nil=>simp at c
 |cons a pk s=>
  rcases row with _|⟨v,row⟩;simp at m
  .have f:=kI.1 d;cases k with
   |zero=>
    simp at c;subst c;have q:pk.filter (· ≠a)=pk:=fA.2 λx o=>by simp;intro e;exact f.1 (e▸o)
    have w:(pk.zip row).filter (·.1≠a)=pk.zip row:=fA.2 λx o=>by simp;intro e;exact f.1 (e▸(b8 (a:=x.1) (b:=x.2) o).1)
    rw[List.zip_cons_cons,bO ag,bO ag,q,w];simp[fQ]
   |succ k=>
    simp at c m;have G:a≠b:=λe=>f.1 (e▸cK c);have:=s f.2 m c;simp[fQ,G] at this⊢;exact this
section
variable{bs:List GB}{b:Nat}{r:GB}{to1:Int}
def Cu:Y (zU bs b r to1)=Y bs:=by simp[zU,FU]
def Ez(bs:List GB)(b:Nat)(r:GB)(to1:Int)(i:Nat)(x:GB):GB:=
 let y:=if(i:Int)∈r.to.filter (· ≠to1) then NK (aI bs i) b x else x
 if i=b then {y with kind:=2,on:=(b9,0),to:=[to1]} else y
def WX(h:bs[i]?=Z x):(zU bs b r to1)[i]?=Z (Ez bs b r to1 i x):=by have c:=(cR.mp h).1;unfold zU Ez;dsimp only;rw[fq,FU];by_cases e:b=i;subst e;rw[bH Q,bH c,bH Q,Cv h];rfl;rw[bM e,bM (λf=>e f.symm),Cv h]
def Kx(i:Nat)(x:GB):(Ez bs b r to1 i x).to=if i=b then [to1] else x.to:=by unfold Ez;dsimp only;split;rfl;split<;>rfl
def yP{a:GB}(h:(zU bs b r to1)[i]?=Z a):∃x,bs[i]?=Z x/\a=Ez bs b r to1 i x:=by have⟨x,c⟩:=aR bs i (by rw[<-Cu (bs:=bs) (b:=b) (r:=r) (to1:=to1)];exact(cR.mp h).1);rw[WX c] at h;exact⟨x,c,(bI h).symm⟩
def abm(o:bs[b]?=Z r)(h1:to1∈r.to)(k:Int):aI (zU bs b r to1) k=(aI bs k).filter λa=>a≠(b:Int)\/k=to1:=by
 refine As (fF _ _) ((fF bs k).filter _) λa=>?_;rw[EG,cu,cu];constructor
 .rintro⟨i,rfl,s,q,c⟩;obtain⟨x,f,rfl⟩:=yP q;rw[Kx] at c;by_cases e:i=b
  .subst e;rw[bH rfl] at c;rw[o] at f;cases f;have:k=to1:=ak c
   subst this;exact⟨⟨i,Q,r,o,h1⟩,ag⟩
  rw[bM e] at c;exact⟨⟨i,Q,x,f,c⟩,by simp;omega⟩
 rintro⟨⟨i,rfl,x,f,c⟩,m⟩;refine⟨i,Q,_,WX f,?_⟩;rw[Kx];by_cases e:i=b;subst e;rw[bH rfl];simp at m;simp[m];rw[bM e];exact c
def FT(i:Nat)(x:GB):(Ez bs b r to1 i x).aP=if(i:Int)∈r.to.filter (· ≠to1) then(NK (aI bs i) b x).aP else x.aP:=by unfold Ez;dsimp only;split<;>split<;>rfl
def aiK(E:EB bs)(w:bs[b]?=Z r)(h1:to1∈r.to)(N:bs[i]?=Z x){T:GP}(c:(Ez bs b r to1 i x).aP[j]?=Z T):∃p,x.aP[j]?=Z p/\T.dst=p.dst/\Y T.row=Y (aI (zU bs b r to1) i)/\(aI (zU bs b r to1) i).zip T.row=((aI bs i).zip p.row).filter λe=>e.1≠(b:Int)\/(i:Int)=to1:=by
 rw[FT] at c;rw[abm w h1];by_cases m:(i:Int)∈r.to.filter (· ≠to1)
 .rw[bH m] at c;unfold NK at c;obtain⟨p,I,rfl⟩:=gu .. ▸c|>cQ.1;have s:=E.rows i x N p (cK I);have z:(i:Int)≠to1:=by simpa using(EG.1 m).2
  have f:(b:Int)∈aI bs i:=cu.2 ⟨b,Q,r,w,(EG.1 m).1⟩;have⟨k,W,q,F⟩:=j_ f;have L:=eC bs i;have O:(λa:Int=>decide (a≠(b:Int)\/(i:Int)=to1))=λa=>decide (a≠(b:Int)):=by funext a;simp[z]
  have G:(λa:Int×(Bool×Int)=>decide (a.1≠(b:Int)\/(i:Int)=to1))=λa=>decide (a.1≠(b:Int)):=by funext a;simp[z]
  rw[O,G,W];refine⟨p,I,Q,?_,FV L s q⟩;have H:=congrArg dk (FV L s q);dsimp only[Xn];rw[j6 J];have:(aI bs i).filter (λa=>decide (a≠(b:Int)))=(aI bs i).erase b:=by rw[L.erase_eq_filter];congr 1;funext a;by_cases e:a=(b:Int)<;>simp[e]
  rw[this,rA f];omega
 .rw[bM m] at c;have s:=E.rows i x N T (cK c);have g:∀a∈aI bs i,a≠(b:Int)\/(i:Int)=to1:=λa o=>by
   by_cases e:(i:Int)=to1;exact ft e
   .refine fc λq=>?_;subst q;obtain⟨k,F,S,M,S⟩:=cu.1 o;have:k=b:=J
    subst this;rw[w] at M;cases M;exact m (EG.2 ⟨S,av e⟩)
  have z:(aI bs i).filter (λa=>decide (a≠(b:Int)\/(i:Int)=to1))=aI bs i:=fA.2 λa o=>decide_eq_true (g a o);have V:((aI bs i).zip T.row).filter (λa=>decide (a.1≠(b:Int)\/(i:Int)=to1))=(aI bs i).zip T.row:=fA.2 λa o=>decide_eq_true (g a.1 (b8 (a:=a.1) (b:=a.2) o).1);rw[z];exact⟨T,c,Q,s,by rw[V]⟩
def EB.cut(E:EB bs)(s:bs[b]?=Z r)(h1:to1∈r.to):EB (zU bs b r to1):=by
 refine⟨by rw[Cu];exact E.n1,by rw[Cu];exact E.n50,λq c=>?_,λq c t m=>?_,λi q c M G=>?_,λq c=>?_⟩
 .have⟨i,o⟩:=iF c;obtain⟨x,f,rfl⟩:=yP o;by_cases e:i=b;subst e;refine ft (fc ⟨?_,to1,by rw[Kx,bH rfl]⟩);unfold Ez;simp
  .have w:(Ez bs b r to1 i x).kind=x.kind:=by unfold Ez;dsimp only;rw[bM e];split<;>rfl
   rw[w,Kx,bM e];exact E.kind x (cK f)
 .have⟨i,o⟩:=iF c;obtain⟨x,f,rfl⟩:=yP o;rw[Kx] at m;rw[Cu];by_cases e:i=b
  .rw[bH e] at m;have:t=to1:=ak m
   subst this;exact E.to r (cK s) t h1
  rw[bM e] at m;exact E.to x (cK f) t m
 obtain⟨x,f,rfl⟩:=yP c;have⟨j,I⟩:=iF G;have⟨p,_,_,G,_⟩:=aiK E s h1 f I;exact G
 .have⟨i,o⟩:=iF c;obtain⟨x,f,rfl⟩:=yP o;rw[FT];have:=E.pl x (cK f);split
  unfold NK;simpa using this;exact this
end
def Hp(bs:List GB)(b:Int)(i:Nat)(p:GP):GP:=⟨p.dst,fZ ((dJ bs i p.row).filter (·.1≠b)) (Y bs)⟩
def aqk:List Nat:=[8,9,10,11]++(aA 60).map (· +55)
def awD(h1:aB)(n0:Nat)(B:SV)(ys:List YB)(i:Nat)(y:YB)(P:GP->GP)(e:Env)(m:Nat)(q:Env)(c:aB):Prop:=
 ∃(j:Nat) (ps:List (GP×SV)),m=Y y.ps-j/\j<=Y y.ps/\aH aqk e q/\bz q 8 j/\cM h1 c n0 B ys B (ys.set i {y with ps:=ps})/\Y ps=Y y.ps/\∀(k:Nat)(q c:GP×SV),y.ps[k]?=Z q->ps[k]?=Z c->(k<j->c.1=P q.1)/\(j<=k->c=q)
def abq(P:cy h1){p t:Int}(W:FZ h1 n0 B ys)(hn:n0<=h1.ax)(f:c_ h1 H (aC name p t B))(w:¬cm B ys H)(E:EB (ys.map YB.g))(c:ys[i]?=Z y){b:Nat}(g:cg e 3 H)(r:bz e 4 b)(M:bz e 7 i)(z:bz e 8 0)(C':∀C q ps,aH aqk e C->cM h1 q n0 B ys B (ys.set i {y with ps:=ps})->ps.map (·.1)=y.g.aP.map (Hp (ys.map YB.g) b i)->m (.exit 2) C q):aN FF (.loop jr) e h1 m:=by
 have l:=E.n50;rw[yd] at l;have X:=(cR.mp c).1;have S:(ys.map YB.g)[i]?=Z y.g:=by rw[gu,c];rfl
 have dq:=W.A.len;have G:Y y.ps<100000:=by have:=E.pl y.g (cK S);simpa [YB.g] using this
 have s:ys.set i {y with ps:=y.ps} =ys:=ie c;have⟨c,f⟩:=f;refine aN.loop (awD h1 n0 B ys i y (Hp (ys.map YB.g) b i) e) ?_ (n:=Y y.ps) ⟨0,y.ps,Q,J,aH.refl _ _,z,by rw[s];exact .refl W P,Q,λi d o a b=>⟨λh=>J,λ_=>by rw[a] at b;cases b;rfl⟩⟩;rintro D C q⟨j,ps,rfl,s,u,q8,T,A,Hq⟩;have I:=T.g.ok;have q3:=u.at (t:=3) g;have G:=u.at (t:=4) r;have q7:=u.at (t:=7) M;have M:=T.g.get P f w;have⟨l,c⟩:∃l,l=ys.set i {y with ps:=ps} :=⟨_,Q⟩;have O:l[i]?=Z {y with ps:=ps} :=by rw[c,fq,bH Q,bH X]
 have F:Y l=Y ys:=by rw[c,lj]
 rw[<-c] at T;have f:=T.w.at O;have V:=T.w.view;have P:∀(k:Nat)(x r:GB),(ys.map YB.g)[k]?=Z x->(l.map YB.g)[k]?=Z r->r.to=x.to:=λk x r h1 s=>by rw[c,dr,fq] at s;by_cases e:i=k;subst e;rw[bH Q,bH (ak X)] at s;rw[S] at h1;cases h1;cases s;rfl;rw[bM e,h1] at s;cases s;rfl
 have eA:aI (l.map YB.g) i=aI (ys.map YB.g) i:=pw (by rw[yd,yd,F]) P i;have two:∀x∈l.map YB.g,Y x.to<=2:=λx g=>by have⟨k,D⟩:=iF g;have⟨r,n⟩:=aR (ys.map YB.g) k (by have:=(cR.mp D).1;rw[yd] at this⊢;omega);rw[P k r x n D];exact E.two (cK n)
 have fe:y.P.l=Y y.ps:=by have:y.P.l=Y ps:=f.P.len;rw[this,A]
 obtain⟨F,U,F,F,z,P,F,_,C,_⟩:=T.w.A.el O;have n:=C 0 1 ai;simp[-ay] at n;simp[aC] at M;rw[z,dq] at M;rw[fe] at n;unfold jr;by_cases U:j<Y y.ps
 .have wj:=bZ ((j:Int)+1) J J;have⟨d,r⟩:=aR y.ps j U;have⟨o,C⟩:=aR ps j;have F:=(Hq j d o r C).2 (fE _);subst F;have F:y.g.aP[j]?=Z o.1:=by simp[YB.g,r]
  have w:=E.rows i y.g S o.1 (cK F);have S:=h_ (ys.map YB.g) i;rw[yd] at S;obtain⟨bP,cP,oP,w,gy,sJ,S,dM,w,eI⟩:=f.P.el C;have oZ:y.P.a=Z ⟨bP,0,K⟩:=gy;have F:=w 0 2 ai;simp[-ay] at F;rw[oZ] at n;have w:=I.bU M;have S:=I.bU sJ;have HU:=I.bU P;simp[q3,G,q7,q8,M,aD M,U,X,n,F,w,S,HU,aK,aC,-ay];have S:=f.ps o (cK C);have f:ae vR 2 q o.2.v o.1.row:=S.view rfl (λi x y a b=>by rw[a] at b;cases b;rfl);have jP:Y (dJ (ys.map YB.g) i o.1.row)<1000000:=by unfold dJ;rw[tl];omega
  have S:dJ (l.map YB.g) i o.1.row=dJ (ys.map YB.g) i o.1.row:=by unfold dJ;rw[eA]
  refine ck.cut (λs=>az aV q s/\q.clock<=s.clock) ⟨bk I,hQ _⟩ ?_;rintro s⟨w,-⟩;have hHt:=w.get I M;have F:=w.get I P;have l:=w.get I sJ;refine ck.call (V:=λv q=>az aV s q/\∃L:SV,v=L.v/\bx fG s.ax q L.v (dJ (ys.map YB.g) i o.1.row)) (by simpa [aC,z,dq,S] using vM w.ok (name:=name) (p:=p) (r:=t) (dst:=o.1.dst) (V.mono I w) (f.mono I w λ_ _ h=>h) (by rw[yd];omega) (λx g=>aw (two x g)) i (by rw[eA];omega)) ?_;rintro _ S⟨g,L,rfl,P⟩;simp;refine WY (E:=L) (b:=b) g.ok (du P).sl jP (av G) ag (by simp[cU]) ag ?_;intro f S t P k9 t qN;have k3:=P.at (t:=3) (aq q3);have k4:=P.at (t:=4) (aq G);have k7:=P.at (t:=7) (aq q7);have k8:bX f 8=dC ef j:=P.at (aq q8);have f:az aV s S:=g.trans t;have F:=f.get w.ok hHt;have g:=f.get w.ok l;have l:=(T.w.cr I w).cr w.ok f;obtain⟨t,t,G,t,G,t,_,_,Q0,_⟩:=l.A.el O;rw[z] at G;cases G;have G:=Q0 0 1 ai;simp[-ay] at G;rw[oZ,fe] at G;have oH4:=f.ok.bU F;have YF:=f.ok.bU t;have anv:Y ((dJ (ys.map YB.g) i o.1.row).filter (·.1≠(b:Int)))<1000000:=Lt (NN _ _) jP;have stH:=f.ok.st _ _ _ _ _ F;have stB:=f.ok.st _ _ _ _ _ t;simp[k3,k4,k7,k8,k9,F,aD F,X,G,oH4,YF,aK,-ay];have G:=bk f.ok;have hH5:=G.get f.ok F;have hB5:=G.get f.ok t;have hP5:=G.get f.ok g;have g:=(du qN).grow f.ok G aj;have t:(tick S).ax=S.ax:=Q;have F:(tick S).clock=S.clock+1:=Q;generalize tick S=h5 at*;refine ck.call (V:=λv q=>az aV h5 q/\∃F:SV,v=F.v/\bx cH h5.ax q F.v (fZ ((dJ (ys.map YB.g) i o.1.row).filter (·.1≠(b:Int))) (Y ys))) (ak (zr G.ok g.sl anv (Y ys) J)) ?_;rintro _ F⟨N,S,rfl,g⟩;have hH6:=N.get G.ok hH5;have hB6:=N.get G.ok hB5;have t:=N.get G.ok hP5;have qZ:=dM 1 1 ai;simp at qZ;have W6:=(l.cr f.ok G).cr G.ok N;obtain⟨l,l,l,l,l,ai5,_,_,ajt,_⟩:=W6.A.el O;rw[z] at l;cases l;have l:=ajt 0 1 ai;simp[-ay] at l;rw[oZ,fe] at l;simp[hH6,stH,stB,hB6,X,U,t,qZ,k8,wj,l,aD hH6,-ay];have z:=aX (off:=j*2+1) (vs:=[S.v]) N.ok t;simp at z;have eP:Hp (ys.map YB.g) b i o.1=⟨o.1.dst,fZ ((dJ (ys.map YB.g) i o.1.row).filter (·.1≠(b:Int))) (Y ys)⟩:=by unfold Hp;rw[yd]
  have l:=eI (Hp (ys.map YB.g) b i o.1,S) 1 [S.v] ag (by simp[bg,Hp]) (put F bP (j*2+1) cP [S.v] oP) ⟨F.clock,ag⟩;simp at l;have t:az aV q F:=((w.trans f).trans G).trans N;have q:=((w.trans f).trans G).ax;have f:=T.row (j:=j) hn O C (p':=(Hp (ys.map YB.g) b i o.1,S)) (t.cr.trans (z.cX λt _ e=>fc ⟨.P,fc Q,by rw[e];exact cj gy⟩)) l ((by rw[eP];exact du g:eo cH F S (Hp (ys.map YB.g) b i o.1).row).go N.ok z λt q e=>by have:=g.of (jt (du g) e);have:=I.wf _ _ sJ;omega) (λt e=>ft (aw (g.of (jt (du g) e))))
  rw[c,wN] at f;refine⟨Y y.ps-(j+1),J,j+1,ps.set j (Hp (ys.map YB.g) b i o.1,S),Q,U,?_,ag,ak f,av A,λk a t h1 s=>?_⟩
  .repeat (refine aH.set ?_)
   refine aH.trans ?_ (P.cX)
   exact au
  rw[fq] at s;by_cases e:j=k;subst e;rw[bH Q,bH J] at s;cases s;rw[r] at h1;cases h1;exact⟨λ_=>rfl,λh=>J⟩;rw[bM e] at s;have⟨f,O⟩:=Hq k a t h1 s;exact⟨λh=>f J,λh=>O J⟩
 .have:j=Y y.ps:=J
  subst this;simp[q3,q7,q8,M,aD M,X,n,-ay];rw[c] at T;refine C' _ _ ps ?_ T (Bc λk=>?_)
  .exact au
  rw[gu,gu];simp only[YB.g,gu];rcases Bb k (Y y.ps) with D|D;have⟨d,r⟩:=aR y.ps k D;have⟨o,C⟩:=aR ps k (by rw[A];exact D);rw[r,C];simp only[zz];rw[(Hq k d o r C).1 D];rw[xE D,xE (by rw[A];exact D)];rfl
def awI:List Nat:=[53,54,55,56,57,58,59,60,61,62,63,64,65,66,67,68,69]
def abn{h:aB}(a:cy h)(W:FZ h n0 B ys)(E:n0<=h.ax){F X1 y i k N:Nat}(b:dR h F (aC name p rg B) N)(M:¬cm B ys F){r:YB}(I:ys[y]?=Z r){q:GP×SV}(d:r.ps[i]?=Z q)(G:c_ h X1 [dC ef q.1.dst,q.2.v])(c:k<Y q.1.row)(X:Y q.1.row<1000000)(X:Y r.ps<1000000)(X:cg e 0 F)(U:bz e 8 y)(L:bz e 9 k)(T:bz e 10 i)(g:cg e 11 X1)(H:∀u O n,aH awI e u->cM h O n0 B ys B (ys.set y {r with ps:=r.ps.set i (⟨q.1.dst,fQ q.1.row k⟩,n)})->m .normal u O):aN FF QA e h m:=by
 have⟨n,G⟩:=G;have R:=W.at I;have n:=(cR.mp I).1;have XO:=(cR.mp d).1;obtain⟨l,u,u,u,u,S,O,O,f,O⟩:=W.A.el I;have O:=f 0 1 ai;simp[-ay] at O;have s:=W.A.len;have f:=b;simp[aC] at f;rw[u,s] at f;have af2:=a.st _ _ _ _ _ b;have P:=a.st _ _ _ _ _ S;have V:=a.bU b;obtain⟨s,⟨_,_,j⟩|⟨b,o,v,v,w,x,A,t⟩⟩:=R.ps q (cK d)
 rw[j] at c;simp at c;have j:r.loc (.R i)=Z b:=by rw[YB.jM d];exact cj w
 have C:cm B ys b:=⟨Z (y,.R i),by rw[cJ I];exact j⟩;have fe:=R.P.len;have z:=bZ ((k:Int)+1) J J;simp at G;rw[w] at G;have D:o=0\/o=2:=ak t
 unfold QA;simp[X,U,L,T,g,f,n,O,G,z,-ay,aD f,aD G,aK,bh,V];refine ck.cut (λO=>az aV h O/\h.clock<=O.clock) ?_ ?_;exact⟨bk a,hQ _⟩;rintro O⟨G,g⟩;have g:=G.get a A;have n:=G.get a S;have z:=G.get a f;refine ck.call (V:=ZK q.2 b o (fQ q.1.row k++(b9,0)::v) (Y q.1.row-1) O) (by simpa [w] using Hr G.ok (F:=q.2) w s (ak x) D g k c J) ?_;rintro _ O⟨f,rfl,S,g,L,g,U,A⟩;have X:=j6 c;have s:¬F=b:=λe=>M (e▸C);have c:¬l=b:=λe=>by have:=W.uO K (Z (y,.R i)) b (by rw[<-e];exact cj u) (by rw[cJ I];exact j);cases this
 have T:=g.get G.ok z s;have QR:=g.get G.ok n c;have u:az (· =b) h O:=G.cr.trans g;have s:∀c,fy r.P=Z c->c≠b:=λc G e=>by have:=W.Gj I .P (.R i) b (by rw[<-e];exact G) j;cases this
 obtain⟨M,h,l,n,n,z,C,D,C,C⟩:=(R.P.go a u (λc G e=>s c e G)).el d;have lP:r.loc .P=Z M:=cj n;have V:=s M (cj n);have r:=D 1 1 ai;simp at r;have s:az (· =M) O (put O M (i*2+1) h [c6 f.a f.l f.c] l):=aX g.ok z;have D:=C (⟨q.1.dst,fQ q.1.row k⟩,f) 1 [c6 f.a f.l f.c] ag rfl (put O M (i*2+1) h [c6 f.a f.l f.c] l) ⟨_,bc _ _ _ _ _ _⟩;have C:eo cH (put O M (i*2+1) h [c6 f.a f.l f.c] l) f (fQ q.1.row k):=⟨J,ft ⟨b,o,U,(b9,0)::v,by rw[S,w],by rw[L,x];simp[X];omega,s.get g.ok A (a7 V),t⟩⟩;simp[T,QR,af2,P,n,fe,XO,z,r];refine H _ _ f ?_ ((cM.refl W a).row E I d (u.trans' s (λc _ e=>fc ⟨.R i,ft Q,by rw[e];exact j⟩) (λc _ e=>fc ⟨.P,fc Q,by rw[e];exact lP⟩)) D C (λc G=>fc ?_))
 .repeat (refine aH.set ?_)
  exact aH.refl _ _
 rw[cj w];have c:fy f=Z b:=cj (by rw[S,w]);rw[<-G,c]
def aqj:List Nat:=[10,11,48,49,50,51,52,53,54,55,56,57,58,59,60,61,62,63,64,65,66,67,68,69,70]
def awG(h:aB)(n0:Nat)(B:SV)(ys:List YB)(y:Nat)(r:YB)(k:Nat)(e:Env)(m:Nat)(a:Env)(b:aB):Prop:=
 ∃(i:Nat) (d:List (GP×SV)),m=Y r.ps-i/\i<=Y r.ps/\Y d=i/\aH aqj e a/\bz a 48 i/\cM h b n0 B ys B (ys.set y {r with ps:=d++r.ps.drop i})/\d.map (·.1)=((r.ps.map (·.1)).take i).map λp=>⟨p.dst,fQ p.row k⟩
def abp{h:aB}(c:cy h)(W:FZ h n0 B ys)(A:n0<=h.ax){F y k l N:Nat}(A:dR h F (aC name p rg B) N)(z:¬cm B ys F){r:YB}(s:ys[y]?=Z r)(f:∀q∈r.ps,Y q.1.row=l)(G:k<l)(G:l<1000000)(G:Y r.ps<1000000)(G:cg e 0 F)(v:bz e 8 y)(S:bz e 9 k)(C:bX e 46=r.P.v)(n:bz e 47 (Y r.ps))(t:bz e 48 0)(E:∀V a b,aH aqj e V->cM h a n0 B ys B (ys.set y {r with ps:=b})->b.map (·.1)=(r.ps.map (·.1)).map (λp=>⟨p.dst,fQ p.row k⟩)->m (.exit 2) V a):aN FF (.loop wI) e h m:=by
 have M:=(cR.mp s).1;refine aN.loop (awG h n0 B ys y r k e) ?_ (n:=Y r.ps) ⟨0,[],Q,J,Q,aH.refl _ _,t,by rw[show ys.set y {r with ps:=[]++r.ps.drop 0} =ys from H4 s];exact .refl W c,ag⟩;rintro s V a⟨i,d,rfl,s,b,u,s,T,t⟩;have g:=T.g;have j:=g.ok;have D:=u.at G;have P:=u.at v;have v:=u.at S;have o:=u.at C;have G:=u.at n;unfold wI;by_cases n:i<Y r.ps
 .have C:=bZ ((i:Int)+1) J J;have⟨q,I⟩:=aR r.ps i n;have S:=iN (qs:=r.ps) b;rw[I] at S;have w:=f q (cK I);have⟨f,w⟩:∃f:YB,f= {r with ps:=d++r.ps.drop i} :=⟨_,Q⟩;rw[<-w] at T;have x:(ys.set y f)[y]?=Z f:=by rw[fq,bH Q,bH M]
  have L:f.ps[i]?=Z q:=by rw[w];exact S
  have R:=T.w.at x;have M:eo iE a r.P (d++r.ps.drop i):=by have:=R.P;rw[w] at this;exact this
  obtain⟨H,H,H,H,H,O,O,O,O,U⟩:=M.el S;have S:=O 0 2 ai;simp[-ay] at S;have O:=M.len;have M:Y (d++r.ps.drop i)=Y r.ps:=by simp;omega
  simp at o;rw[H,O,M] at o;simp[o,G,s,v,n,S,-ay,aJ,cw,bh,aK];refine aN.cut (λM=>az aV a M/\(c_ M a.ax [dC ef q.1.dst,q.2.v])) ?_ ?_;exact⟨(az.refl j).var _ _,⟨a.clock,by simp[bg]⟩⟩;rintro M⟨O,S⟩;have M:=g.ax;have M:=c.wf _ _ A;have M:∀M,a.ax<=M->¬cm B (ys.set y f) M:=λM M h=>aw (T.w.j8 j h)
  have M:¬cm B (ys.set y f) F:=λh=>(T.s F h).elim z J;have h:=T.cr O;refine abn O.ok h.w (aw h.g.ax) (F:=F) (X1:=a.ax) (y:=y) (i:=i) (k:=k) (q:=q) (O.get j (g.get c A z)) M x L S J J (by rw[w];show(d++r.ps.drop i).length<_;omega) (av D) (av P) (av v) ag ag ?_;intro v v c v D;have P:=v.at (t:=48) (aq s);have O:=h.trans D;rw[wN] at O;have D:({f with ps:=f.ps.set i (⟨q.1.dst,fQ q.1.row k⟩,c)} :YB)= {r with ps:=(d++[(⟨q.1.dst,fQ q.1.row k⟩,c)])++r.ps.drop (i+1)} :=by rw[w];dsimp only;rw[set_drop b I]
  rw[D] at O;simp[P,C];refine⟨Y r.ps-(i+1),J,i+1,d++[(⟨q.1.dst,fQ q.1.row k⟩,c)],Q,n,av b,?_,ag,O,?_⟩
  .refine aH.set (aH.set (aH.trans ?_ (v.cX)))
   exact au
  rw[aW,t,mw,gu,I,aW];simp
 .have:i=Y r.ps:=J
  subst this;rw[cG,ye] at T;simp[G,s];exact E _ _ d (aH.set u) T (by rw[t,nz ag])
section
variable{r h b:aB}{n0:Nat}{y:YB}{B0 B:SV}{z ys:List YB}{i:Nat}
def cM.aru{T':SV}{k:Int}{o:Bool×Int}{to':List Int}(T:cM r h n0 B0 z B ys)(W:n0<=r.ax)(G:ys[i]?=Z y)(g:az (λc=>fy B=Z c\/h.ax<=c) h b)(S:eo eH b B (ys.set i {y with kind:=k,on:=o,T:=T',to:=to'}))(q:eo encI b T' to')(N:∀c,fy T'=Z c->h.ax<=c):cM r b n0 B0 z B (ys.set i {y with kind:=k,on:=o,T:=T',to:=to'}):=by
 have m:=T.g.ok;have a:=T.w.at G;have V:=T.g.ax;have no:∀c l,(fy B=Z c\/h.ax<=c)->y.loc l≠Z c:=λc l f e=>by rcases f with f|f;have:=T.w.uO K (Z (i,l)) c f (by rw[cJ G];exact e);cases this;have:=a.lt m e;omega
 have O:∀l,l≠ .T->({y with kind:=k,on:=o,T:=T',to:=to'} :YB).loc l=y.loc l:=λl w=>by
  cases l with
  |T=>exact absurd rfl w
  |_=>rfl
 refine T.step g (λc f=>f.imp (λe=>⟨K,e⟩) (λe=>J)) (T.w.uY m g J G (λc f o G=>?_) S ⟨a.P.go m g λc f=>no c .P f,a.L.go m g λc f=>no c .L f,q,λq s=>?_,λq s=>?_⟩ (λp S=>S.uY .T O λc f l w=>?_) λl c e=>?_);rcases f with e|e;exact fc (T.w.uO K o c e G).symm;have:=T.w.lt m G;omega
 have⟨j,I⟩:=iF s;exact(a.ps q s).go m g λc f=>by rw[<-YB.jM I];exact no c (.R j) f
 have⟨j,I⟩:=iF s;exact(a.ls q s).go m g λc f=>by rw[<-YB.pW I];exact no c (.X j) f
 have:=N c f;have:=a.lt m w;omega
 by_cases M:l=.T;subst M;exact ft (N c e);rw[O l M] at e;exact fc ⟨l,e,id⟩
end
def awH(h1:aB)(n0:Nat)(B:SV)(ys:List YB)(c:aa)(F:Nat)(b:Nat)(to1:Int)(T:SV)(to:List Int)(m:Nat)(e:Env)(z:aB):Prop:=
 ∃(i:Nat) (a:List YB),m=Y to-i/\i<=Y to/\cg e 0 F/\bz e 1 b/\bz e 2 to1/\bX e 6=c/\bX e 24=T.v/\bz e 25 (Y to)/\bz e 26 i/\cM h1 z n0 B ys B a/\a.map YB.g=Dh (ys.map YB.g) b ((to.take i).filter (· ≠to1))/\∀(k:Nat)(y z:YB),ys[k]?=Z y->a[k]?=Z z->z= {y with ps:=z.ps}
def OA{h:aB}(r:cy h)(W:FZ h n0 B ys)(sO:n0<=h.ax)(hF:dR h F (aC name p rg B) N)(nF:¬cm B ys F){b:Nat}{c:YB}(S:ys[b]?=Z c)(E:EB (ys.map YB.g)){to1:Int} :aY FF 156 [dB (Z ⟨F,0,K⟩),dC ef b,dC ef to1] h (λ_ f=>∃l,cM h f n0 B ys B l/\l.map YB.g=zU (ys.map YB.g) b c.g to1):=by
 have AY:=(cR.mp S).1;have Ro:=W.at S;have D:=Ro.T.len;have oi:Y (ys.map YB.g)=Y ys:=yd ..;have yf:=E.n50;rw[oi] at yf;have q:∀ {k:Nat} {y:YB},ys[k]?=Z y->(ys.map YB.g)[k]?=Z y.g:=λh=>by rw[gu,h];rfl
 have N':=cK (q S);have QY:c.to.Nodup:=E.nd N';have aA7:Y c.to<=2:=E.two N';have e_:=hF;simp[aC] at e_;refine aY.of Qk ?_;unfold FC;simp[e_];refine bm.call (V:=λv f=>az aV h f/\∃d o,v=c6 (Z ⟨d,0,K⟩) (Y ys) (Y ys)/\jm encI h.ax f d o (Edge.dm (cx (ys.map YB.g)))) (by simpa [aC] using kS r (name:=name) (p:=p) (r:=rg) W.view E.ends) ?_;rintro _ h1⟨w,d,o,rfl,w1⟩;have W1:=W.cr r w;have wX:=w.get r e_;have afp:=w.get r hF;have⟨bB,cs,oB,sB,dY,wW,Nl,dM,cV,eI⟩:=W1.A.el S;have yz:=cV 5 1 ai;simp[-ay] at yz;have EI:=W1.A.len;rw[dY,EI] at wX;simp[wX,AY,yz,D,-ay,aD wX];have ahu:(ys.map YB.g)=Dh (ys.map YB.g) b ((c.to.take 0).filter (· ≠to1)):=by refine Bc λm=>?_;unfold Dh;rw[bn];simp;rfl
 refine aN.loop (awH h1 n0 B ys (c6 (Z ⟨d,0,K⟩) (Y ys) (Y ys)) F b to1 c.T c.to) ?_ (n:=Y c.to)
  ⟨0,ys,Q,J,ag,ag,ag,ag,av D,ag,ag,.refl W1 w.ok,ahu,λk y z' a b=>by rw[a] at b;cases b;rfl⟩
 rintro m e' f⟨i,l,rfl,hi,q0,q1,X,q6,A,L,I,T,M,HT⟩;have g:=T.g;have G:=g.ok;have u0:Y l=Y ys:=by have:=congrArg dk M;simp[FU] at this;exact this
 have⟨n,z⟩:=aR l b;have nF1:¬cm B l F:=λh=>(T.s F h).elim nF (by have:=r.wf _ _ hF;have:=w.ax;omega);have gM:=g.get w.ok wX nF;have oh:=g.get w.ok afp nF;unfold Ch;by_cases U:i<Y c.to
 .have wi:=bZ ((i:Int)+1) J J;have⟨t,x⟩:=aR c.to i U;have htb:=E.to _ N' t (cK x);rw[oi] at htb;obtain⟨u,rfl⟩:∃u:Nat,t=u:=⟨t.toNat,J⟩;have Nn:u<Y ys:=J
  have Xy:n.to=c.to/\n.T=c.T:=by
   refine⟨?_,by rw[HT b c n S z]⟩;have h1:(l.map YB.g)[b]?=Z n.g:=by rw[gu,z];rfl
   rw[M,Cv (q S)] at h1;have s:n.g.to=c.g.to:=by rw[<-bI h1];split<;>rfl
   exact s
  have OT:bj encI f c.T.v c.to:=by have:=(T.w.at z).T.sl;rw[Xy.1,Xy.2] at this;exact this
  have⟨bT,Rm,abj,Gf,_,_,uN⟩:=OT.read x;have rt:=uN 0 1 ai;simp[-ay] at rt Gf;simp at A;rw[Gf.1,D] at A;by_cases eF:(u:Int)=to1
  subst eF;simp[X,A,L,I,U,rt,wi,-ay];exact⟨Y c.to-(i+1),J,i+1,l,Q,U,av q0,av q1,av X,av q6,by simp[A,Gf.1,D],av L,ag,T,by rw[abr x];exact M,HT⟩;have⟨H,G8⟩:=aR ys u Nn;have⟨r1,P⟩:=aR l u;have ane:(u:Int)∉(c.to.take i).filter (· ≠to1):=λhm=>by
   have⟨j,hj⟩:=iF (EG.1 hm).1;rw[F8] at hj;split at hj;have a1:=(cR.mp hj).2;have a2:=(cR.mp x).2;have:=(ib QY).1 (a1.trans a2.symm);omega
   cases hj
  have eg:r1.g=H.g:=by
   have h1:(l.map YB.g)[u]?=Z r1.g:=by rw[gu,P];rfl
   rw[M,Cv (q G8),bM ane] at h1;exact(bI h1).symm
  have Bg:=E.ahead (k:=u) J;have⟨pk,C⟩:∃pk,pk=aI (ys.map YB.g) u:=⟨_,Q⟩;rw[<-C] at Bg;have⟨wk,Gi⟩:=aR o u (by rw[w1.len];exact(cR.mp Bg).1);have AX:(b:Int)∈pk:=by rw[C];exact cu.2 ⟨b,Q,c.g,q S,cK x⟩
  have anp:pk.Nodup:=by rw[C];exact eC _ _
  have aAG:Y pk<=2000:=by have:=h_ (ys.map YB.g) u;rw[<-C] at this;omega
  have w':=w1.grow w.ok g (λb V h=>aw (W.j8 r h));have⟨sd,hd⟩:=w'.ch;have Ws:=tR hd Gi;simp[-ay] at Ws;simp[q6,q1,X,A,L,I,U,rt,eF,Ws,Nn,-ay];have hWs:bj encI f wk.v pk:=(w'.acc u wk pk Gi Bg).sl;refine bm.call (V:=λv s=>s=f/\∃k:Nat,v=dC ef k/\pk[k]?=Z (b:Int)) (ak (IK hWs J AX)) ?_;rintro _ s⟨rfl,k,rfl,hk⟩;have kj:=(cR.mp hk).1;have om:aO pk b=k:=zj hk λm hm e=>by have a1:=(cR.mp hk).2;have a2:=(cR.mp e).2;have:=(ib anp).1 (a1.trans a2.symm);omega
  have⟨Z4,wT,HU,sB',kU,V,am7,BU,wZ,Un⟩:=T.w.A.el P;rw[dY] at kU;cases kU;have rd1:=wZ 0 1 ai;simp[-ay] at rd1;have R1:=T.w.at P;have fe:=R1.P.len;simp[q0,gM,Nn,rd1,fe,-ay,aD gM];have anr:=cK (q G8);have jH:r1.ps.map (·.1)=H.ps.map (·.1):=congrArg GB.aP eg;refine abp G T.w (by have:=w.ax;have:=g.ax;omega) (F:=F) (y:=u) (k:=k) (l:=Y pk) oh nF1 P (λq' hq=>?_) kj J ?_ (av q0) ag ag (av fe) ag ag ?_
  .have hm:q'.1∈H.g.aP:=by show q'.1∈H.ps.map (·.1);rw[<-jH];exact iT.2 ⟨q',hq,Q⟩
   rw[E.rows u H.g (q G8) q'.1 hm,C]
  have:=E.pl _ anr;have s:=congrArg dk jH;simp at s;simp[YB.g] at this;omega
  intro e4 h4 qs O T4 Mq;have m0:=O.at (t:=0) (aq q0);have m1:=O.at (t:=1) (aq q1);have m2:=O.at (t:=2) (aq X);have m6:=O.at (t:=6) (aq q6);have m24:=O.at (t:=24) (aq A);have m25:=O.at (t:=25) (aq L);have m26:=O.at (t:=26) (aq I);simp[m26,wi];refine⟨Y c.to-(i+1),J,i+1,l.set u {r1 with ps:=qs},Q,U,av m0,av m1,av m2,av m6,by simp[m24,Gf.1,D],av m25,ag,T.trans T4,?_,λk y z' a b=>?_⟩
  rw[dr,M,abt x (q G8) eF,<-eg,<-C];congr 1;unfold NK YB.g;simp only[om,Xn];rw[Mq]
  .rw[fq] at b;by_cases e:u=k;subst e;rw[bH Q,bH J] at b;cases b;have:=HT u y r1 a P;rw[this]
   rw[bM e] at b;exact HT k y z' a b
 .have:i=Y c.to:=J
  subst this;rw[mI] at M;have⟨Z4,wT,HU,sB',kU,V,am7,BU,wZ,Un⟩:=T.w.A.el z;rw[dY] at kU;cases kU;have Ls:=G.st _ _ _ _ _ V;have Nk:=BU 2 4 ai;simp at Nk;have P:¬bB=f.ax:=aw (G.wf _ _ V)
  simp[q0,q1,X,L,I,gM,AY,-ay,aD gM,P,V,Nk,Ls];have⟨s,C⟩:∃s,s=put (aM f [aL ef to1] 0) bB (b*6+2) wT [dC ef 2,dd b9,dC ef 0,c6 (Z ⟨f.ax,0,K⟩) 1 1] HU:=⟨_,Q⟩;rw[<-C];have x:az aV f (aM f [aL ef to1] 0):=aZ G _ _;have gB:=x.get G V;have H:az (· =bB) (aM f [aL ef to1] 0) s:=by rw[C];exact aX x.ok gB
  have A5:=Un {n with kind:=2,on:=(b9,0),T:=⟨Z ⟨f.ax,0,K⟩,1,1⟩,to:=[to1]} 2 [dC ef 2,dd b9,dC ef 0,c6 (Z ⟨f.ax,0,K⟩) 1 1] ag rfl s ⟨_,by rw[C];exact bc _ _ _ _ _ _⟩;have AT:eo encI s ⟨Z ⟨f.ax,0,K⟩,1,1⟩ [to1]:=⟨Q,ft ⟨f.ax,0,0,[],Q,Q,H.get x.ok ag (a7 P),fc Q⟩⟩;have T6:=T.aru (k:=2) (o:=(b9,0)) (T':=⟨Z ⟨f.ax,0,K⟩,1,1⟩) (to':=[to1]) (aw w.ax) z ((x.cr.trans H).cX (λc' _ e=>fc (by rw[e];exact cj dY))) A5 AT (λc' O=>by rw[cj rfl] at O;cases O;omega);refine⟨_,((cM.refl W r).cr w).trans T6,?_⟩;have O:(l.map YB.g)[b]?=Z n.g:=by rw[gu,z];rfl
  unfold zU;dsimp only;rw[dr,M,show c.g.to=c.to from Q,<-M,O];rfl
def B9(bs:List GB)(b:Nat):List GB:=
 match bs[b]? with
 |some r=>if r.kind=3/\r.on.1=b9 then zU bs b r ((r.to[if r.on.2=0 then 1 else 0]?).getD 0) else bs
 |none=>bs
def yk(bs:List GB):Nat->List GB
 |0=>bs
 |n+1=>B9 (yk bs n) n
def JG(E:EB bs){b:Nat}{r:GB}(c:bs[b]?=Z r)(f:r.kind=3):∃t u,r.to=[t,u]/\t≠u:=by rcases E.kind r (cK c) with⟨e,_⟩|⟨e,_⟩|⟨_,h⟩;omega;omega;exact h
def EB.jmp(E:EB bs)(b:Nat):EB (B9 bs b):=by unfold B9;split;rename_i r c;split;rename_i h;have⟨t,u,f,m⟩:=JG E c h.1;refine E.cut c ?_;rw[f];split<;>simp;exact E;exact E
def agd(bs:List GB)(b:Nat):Y (B9 bs b)=Y bs:=by unfold B9;split;split;exact Cu;rfl;rfl
def EB.EP{bs:List GB}(E:EB bs):∀n,EB (yk bs n)
 |0=>E
 |n+1=>(E.EP n).jmp n
def Lw(bs:List GB):∀n,Y (yk bs n)=Y bs
 |0=>rfl
 |n+1=>(agd _ n).trans (Lw bs n)
def JuZ(h:aB)(n0:Nat)(B:SV)(ys:List YB)(F:Nat)(m:Nat)(e:Env)(b:aB):Prop:=
 ∃(i:Nat) (a:List YB),m=Y ys-i/\i<=Y ys/\cg e 0 F/\bz e 8 (Y ys)/\bz e 9 i/\cM h b n0 B ys B a/\a.map YB.g=yk (ys.map YB.g) i
def Uz{h:aB}(A:cy h)(W:FZ h n0 B ys)(S:n0<=h.ax)(r:dR h F (aC name p rg B) N)(U:¬cm B ys F)(E:EB (ys.map YB.g)):aY FF 100 [dB (Z ⟨F,0,K⟩)] h (λ_ P=>∃z,cM h P n0 B ys B z/\z.map YB.g=yk (ys.map YB.g) (Y ys)):=by
 have y:=W.A.len;have k:=E.n50;rw[yd] at k;have C:=r;simp[aC] at C;refine aY.of Km ?_;unfold Bu;simp[C,y,-ay,aD C];refine aN.loop (JuZ h n0 B ys F) ?_ (n:=Y ys) ⟨0,ys,Q,J,ag,ag,ag,.refl W A,Q⟩;rintro m e P⟨i,z,rfl,X,s,o,G,T,M⟩;have g:=T.g;have H:=g.ok;have f:Y z=Y ys:=by have:=congrArg dk M;simp[Lw] at this;exact this
 have V:EB (z.map YB.g):=by rw[M];exact E.EP i
 have j:¬cm B z F:=λh=>(T.s F h).elim U (aw (A.wf _ _ r));have gM:=g.get A r U;have S:=g.get A C U;unfold zm;by_cases O:i<Y ys
 .have C:=bZ ((i:Int)+1) J J;have⟨r,d⟩:=aR z i;have w:(z.map YB.g)[i]?=Z r.g:=by rw[gu,d];rfl
  have R:=T.w.at d;have c:=R.T.len;obtain⟨D,L,v,x,a,L,k,n,A,U⟩:=T.w.A.el d;have n:=A 2 4 ai;simp[-ay] at n;rw[a,y] at S;have f:¬D=P.ax:=aw (H.wf _ _ L)
  have y:yk (ys.map YB.g) (i+1)=B9 (z.map YB.g) i:=by show B9 (yk _ i) i=_;rw[M]
  simp[s,o,G,O,S,n,-ay,aD S,aJ,cw,bh,aK,H.bU L];refine bm.cut (λq=>az aV P q/\c_ q P.ax [dC ef r.kind,dd r.on.1,dC ef r.on.2,r.T.v]) ⟨(az.refl H).var _ _,⟨P.clock,by simp[bg]⟩⟩ ?_;rintro q⟨U,S,f⟩;simp at f;have x:=T.cr U;have k:=U.ok;have D:¬(r.g.kind=3/\r.g.on.1=b9)->z.map YB.g=yk (ys.map YB.g) (i+1):=λA=>by rw[y];unfold B9;rw[w];dsimp only;rw[bM A]
  by_cases I:r.kind=3
  .by_cases L:r.on.1=cd;simp[I,L,f,s,o,G,C,-ay,aD f];exact⟨Y ys-(i+1),J,i+1,z,Q,O,av s,av o,ag,x,D (λh=>by have q:r.on.1=b9:=h.2;rw[L] at q;cases q)⟩
   .have a:r.on.1=b9:=ak L
    have⟨t,u,L,A⟩:=JG V w I;have A:r.to=[t,u]:=L;have n:bj encI q r.T.v r.to:=(x.w.at d).T.sl;obtain⟨P,b,S,l,_,_,P⟩:=n.read (i:=0) (x:=t) (by rw[A];rfl);obtain⟨S,X,b,b,_,_,v⟩:=n.read (i:=1) (x:=u) (by rw[A];rfl);have S:=P 0 1 ai;have X:=v 0 1 ai;simp[-ay] at S X l b;rw[l.1] at b;simp at b;have⟨⟨n,P⟩,v⟩:=b;subst n P;have v:r.T.l=2:=by rw[c,A];rfl
    have A:¬cm B z F:=j;have n:=U.get H gM;rw[l.1,v] at f;by_cases v:r.on.2=0
    simp[I,a,f,v,s,o,G,S,X,-ay,aD f];refine bm.call (V:=λ_ b=>∃c,cM q b n0 B z B c/\c.map YB.g=zU (z.map YB.g) i r.g u) (ak (OA k x.w (aw x.g.ax) n A d V)) ?_;rintro _ b⟨c,j,P⟩;simp[G,C];refine⟨Y ys-(i+1),J,i+1,c,Q,O,av s,av o,ag,x.trans j,?_⟩;rw[P,y];unfold B9;rw[w];dsimp only;rw[bH ⟨I,a⟩,show r.g.on.2=0 from v,bH Q,L];rfl
    .have H:(r.on.2 !=0)=cd:=by simp[v]
     simp[I,a,f,v,H,s,o,G,S,X,-ay,aD f];refine bm.call (V:=λ_ b=>∃c,cM q b n0 B z B c/\c.map YB.g=zU (z.map YB.g) i r.g t) (ak (OA k x.w (aw x.g.ax) n A d V)) ?_;rintro _ b⟨c,j,P⟩;simp[G,C];refine⟨Y ys-(i+1),J,i+1,c,Q,O,av s,av o,ag,x.trans j,?_⟩;rw[P,y];unfold B9;rw[w];dsimp only;rw[bH ⟨I,a⟩,bM (show ¬r.g.on.2=0 from v),L];rfl
  .have j:(r.kind !=3)=cd:=by simp[I]
   simp[j,f,s,o,G,C,-ay,aD f];exact⟨Y ys-(i+1),J,i+1,z,Q,O,av s,av o,ag,x,D (λh=>I h.1)⟩
 .have:i=Y ys:=J
  subst this;simp[o,G];exact⟨z,T,M⟩
section
variable{bs:List GB}{b i:Nat}{r x:GB}{to1:Int}
def aab(E:EB bs)(w:bs[b]?=Z r)(c:bs[i]?=Z x)(I:(i:Int)∈r.to){p:GP}(m:p∈x.aP):Hp bs b i p=⟨p.dst,fQ p.row (aO (aI bs i) b).toNat⟩:=by
 have d:(b:Int)∈aI bs i:=cu.2 ⟨b,Q,r,w,I⟩;have⟨k,o,G,M⟩:=j_ d;have s:=E.rows i x c p m;have c:=eC bs i;unfold Hp dJ;rw[<-FV c s G,o,Xn];have f:Y (fQ p.row k)=Y ((aI bs i).filter (· ≠(b:Int))):=by
  rw[j6 J];have:(aI bs i).filter (λa=>decide (a≠(b:Int)))=(aI bs i).erase b:=by rw[c.erase_eq_filter];congr 1;funext a;by_cases e:a=(b:Int)<;>simp[e]
  rw[this,rA d];omega
 rw[PF f ((fF bs i).filter _) λa q=>qO (EG.1 q).1]
def aiM(E:EB bs)(o:bs[b]?=Z r)(c:bs[i]?=Z x)(s:(i:Int)∈r.to):Dh bs b [(i:Int)]=bs.set i {x with aP:=x.aP.map (Hp bs b i)} :=by
 have q:=(cR.mp c).1;refine Bc λm=>?_;rw[fq];by_cases e:i=m;subst e;rw[bH Q,bH q,Cv c,bH ag];unfold NK;have:(x.aP.map λp=>(⟨p.dst,fQ p.row (aO (aI bs i) b).toNat⟩:GP))=x.aP.map (Hp bs b i):=bf λp f=>(aab E o c s f).symm;rw[this]
 rw[bM e];unfold Dh;rw[bn];rcases bs[m]? with _|y;rfl;simp;intro h;omega
end
def Yp{h:aB}(m:cy h){X s:Nat}{k:Int}{on:Bool×Int}{T:SV}(f:dR h X [dC ef k,dd on.1,dC ef on.2,T.v] s)(q:GP×SV):aY FF 215 [eU ⟨iE.enc q⟩,dB (Z ⟨X,0,K⟩)] h (λv s=>v=dd (decide (on=(cd,q.1.dst)))/\az aV h s):=by
 have⟨r,n⟩:=on;have w:=m.bU f;have G:=w.lt;have o:¬h.ax=X:=J
 have c:¬X=h.ax:=J
 refine aY.of Hl ?_;unfold yL;simp at f;simp[f,o,c];refine⟨?_,(az.refl m).new _ _⟩;cases r<;>simp[BEq.beq,instBEqOfDecidableEq]
abbrev aiJ:aG:=.ops [⟨Z 112,K,.cD 3 (t_ 3)⟩,⟨Z 113,K,.load K (t_ 112)⟩,⟨Z 114,K,.mv (t_ 4)⟩,⟨Z 115,K,.mv (t_ 6)⟩,⟨Z 116,K,.fC 1 [dC ef 0] [(0,1,.tmp 115)]⟩,⟨Z 117,K,.build [dC ef 0,dd b9,dC ef 0,c6 K 0 0] [(0,1,.const (dC ef 2)),(3,1,.tmp 116)]⟩,⟨Z 118,K,.ee K 6 (t_ 113) (t_ 114)⟩,⟨Z 119,K,.cD 2 (t_ 118)⟩,⟨K,K,.store 4 (t_ 119) (t_ 117)⟩]
def awJ:List Nat:=[8,9,10,11]++(aA 65).map (· +55)
def Tp(S:cy h1){p r:Int}(W:FZ h1 n0 B ys)(o:n0<=h1.ax)(w:c_ h1 H (aC name p r B))(d:¬cm B ys H)(E:EB (ys.map YB.g)){c i:Nat}{y x:YB}(j:ys[c]?=Z y)(n:ys[i]?=Z x)(l:y.to.filter (· ≠to1)=[(i:Int)])(f:cg e 3 H)(q:bz e 4 c)(A:bz e 6 to1)(G:bz e 7 i)(r:bz e 8 0)(C:∀O a b,aH awJ e O->cM h1 a n0 B ys B b->b.map YB.g=zU (ys.map YB.g) c y.g to1->m .normal O a):aN FF (.loop jr) e h1 (PU 2 (J0 FF aiJ m)):=by
 have t:=(cR.mp j).1;have F:=W.A.len;have h:H<h1.ax:=by have⟨s,h⟩:=w;exact S.wf _ _ h
 refine abq S W o w d E n f q G r ?_;intro O a ps u T s;have⟨G,w⟩:=w;have g:=T.g;have G:=g.ok;have M:=u.at (t:=3) f;have z:=u.at (t:=4) q;have f:=u.at (t:=6) A;have q:=g.get S w d;simp[aC] at q;have⟨b,V⟩:∃b,b=ys.set i {x with ps:=ps} :=⟨_,Q⟩;rw[<-V] at T;have w:Y b=Y ys:=by rw[V,lj]
 have⟨O,w⟩:=aR b c;obtain⟨N,A,D,d,d,I,S,r,S,v⟩:=T.w.A.el w;have L:=G.st _ _ _ _ _ I;have S:=r 2 4 ai;simp at S;rw[d,F] at q;have r:¬N=a.ax:=aw (G.wf _ _ I)
 simp[M,z,f,q,t,-ay,aD q,r,I,S,L];have⟨q,S⟩:∃q,q=put (aM a [aL ef to1] 0) N (c*6+2) A [dC ef 2,dd b9,dC ef 0,c6 (Z ⟨a.ax,0,K⟩) 1 1] D:=⟨_,Q⟩;rw[<-S];have f:az aV a (aM a [aL ef to1] 0):=aZ G _ _;have M:=f.get G I;have G:az (· =N) (aM a [aL ef to1] 0) q:=by rw[S];exact aX f.ok M
 have M:=v {O with kind:=2,on:=(b9,0),T:=⟨Z ⟨a.ax,0,K⟩,1,1⟩,to:=[to1]} 2 [dC ef 2,dd b9,dC ef 0,c6 (Z ⟨a.ax,0,K⟩) 1 1] ag rfl q ⟨_,by rw[S];exact bc _ _ _ _ _ _⟩;have S:eo encI q ⟨Z ⟨a.ax,0,K⟩,1,1⟩ [to1]:=⟨Q,ft ⟨a.ax,0,0,[],Q,Q,G.get f.ok ag (a7 r),fc Q⟩⟩;have r:=T.aru (k:=2) (o:=(b9,0)) (T':=⟨Z ⟨a.ax,0,K⟩,1,1⟩) (to':=[to1]) o w ((f.cr.trans G).cX (λG _ e=>fc (by rw[e];exact cj d))) M S (λG d=>by rw[cj rfl] at d;cases d;omega);refine C _ _ _ ?_ r ?_
 .repeat (refine aH.set ?_)
  exact u.cX
 have d:∀ {k:Nat} {y:YB},ys[k]?=Z y->(ys.map YB.g)[k]?=Z y.g:=λh=>by rw[gu,h];rfl
 have M:(b.map YB.g)[c]?=Z O.g:=by rw[gu,w];rfl
 have w:Dh (ys.map YB.g) c [(i:Int)]=b.map YB.g:=by
  have b:(i:Int)∈y.to:=by
   have:(i:Int)∈y.to.filter (· ≠to1):=by rw[l];simp
   exact(EG.1 this).1
  rw[aiM E (d j) (d n) b,V,dr];congr 1;show _=({x with ps:=ps} :YB).g;unfold YB.g;dsimp only;rw[s];rfl
 unfold zU;dsimp only;rw[dr,show y.g.to=y.to from Q,l,w,M];rfl
def awE(h1:aB)(n0:Nat)(B:SV)(ys:List YB)(H R:Nat)(m:Nat)(e:Env)(b:aB):Prop:=
 ∃(i:Nat) (a:List YB),m=Y ys-i/\i<=Y ys/\cg e 2 R/\cg e 3 H/\bz e 4 i/\cM h1 b n0 B ys B a/\a.map YB.g=yk (ys.map YB.g) i
def ac5{v h:aB}(P:cy v)(D:az aV v h){name:ByteArray}{p r:Int}(U:mm v B0 bs)(E:EB bs)(H:∀b∈bs,Hb b):aY FF 49 [eU ⟨aC name p r B0⟩] h (js name p r (yk bs (Y bs)) h):=by
 have A:=D.ok;have k:=E.n50;have V:¬h.ax=h.ax+1:=J
 refine aY.of FP ?_;unfold xx;simp[aC,V];refine bm.cut (λh1=>az aV h h1/\h1.ax=h.ax+2/\c_ h1 (h.ax+1) [eT ⟨⟨[]⟩⟩,dC ef 0,dC ef 0,c6 K 0 0]) ⟨((az.refl A).new _ _).new _ _,ag,ag⟩ ?_;rintro h1⟨g1,F,d,k⟩;refine bm.call (V:=js name p r bs h1) (by simpa [aC] using tw P (D.trans g1) (name:=name) (p:=p) (r:=r) U H J) ?_;rintro _ w⟨L,B,ys,rfl,W,x,M'⟩;simp[aC];refine aN.cut (λj=>az aV w j/\c_ j w.ax (aC name p r B)) ⟨(az.refl L.ok).var _ _,⟨w.clock,by simp[bg,aC]⟩⟩ ?_;rintro j⟨d,f,s⟩;have f:h1.ax<=w.ax:=L.ax;have X:=W.cr L.ok d;have S:EB (ys.map YB.g):=by rw[M'];exact E
 have mj:Y ys=Y bs:=by have:=congrArg dk M';simpa using this
 have f:=g1.ok.wf _ _ k;have oR:¬cm B ys (h.ax+1):=λ⟨l,e⟩=>aw (W.new l _ e)
 have C:¬cm B ys w.ax:=λ⟨l,e⟩=>aw (W.lt L.ok e)
 have xG:=d.get L.ok (L.get g1.ok k (λh=>h));have k:=d.ok.wf _ _ s;refine aN.loop (awE j h1.ax B ys w.ax (h.ax+1)) ?_ (n:=Y ys) ⟨0,ys,Q,J,ag,ag,ag,.refl X d.ok,Q⟩;rintro m k X⟨i,z,rfl,A,G,f,I,T,D⟩;have g:=T.g;have q:=g.ok;have O:Y z=Y ys:=by have:=congrArg dk D;simp[Lw] at this;exact this
 have P:EB (z.map YB.g):=by rw[D];exact S.EP i
 have yS:=g.get d.ok s C;have nH1:¬cm B z w.ax:=λh=>(T.s _ h).elim C J;have k:=W.A.len;have n:=yS;simp[aC] at n;unfold uG;by_cases H:i<Y ys
 .have j:=bZ ((i:Int)+1) J J;have⟨y,F⟩:=aR z i;have U:(z.map YB.g)[i]?=Z y.g:=by rw[gu,F];rfl
  have R:=T.w.at F;have mR:=R.T.len;obtain⟨A,O,S,C,C,M,c,O,A,O⟩:=T.w.A.el F;have s:=A 2 4 ai;simp[-ay] at s;rw[C,k] at n;have eJ:yk (ys.map YB.g) (i+1)=B9 (z.map YB.g) i:=by show B9 (yk _ i) i=_;rw[D]
  simp[G,f,I,H,n,s,-ay,aD n,aJ,cw,bh,aK,q.bU M];refine bm.cut (λS=>az aV X S/\c_ S X.ax [dC ef y.kind,dd y.on.1,dC ef y.on.2,y.T.v]) ⟨(az.refl q).var _ _,⟨X.clock,by simp[bg]⟩⟩ ?_;rintro S⟨g4,M,s⟩;simp at s;have N:=T.cr g4;have ot:=g4.ok;have same:¬(y.g.kind=3/\y.g.on.1=b9)->z.map YB.g=yk (ys.map YB.g) (i+1):=λhn=>by rw[eJ];unfold B9;rw[U];dsimp only;rw[bM hn]
  by_cases O:y.kind=3
  .by_cases M:y.on.1=cd;simp[O,M,s,G,f,I,j,-ay,aD s];exact⟨Y ys-(i+1),J,i+1,z,Q,H,av G,av f,ag,N,same (λh=>by have w:y.on.1=b9:=h.2;rw[M] at w;cases w)⟩
   .have C:y.on.1=b9:=ak M
    have⟨t,u,c,hn⟩:=JG P U O;have M:y.to=[t,u]:=c;have w:bj encI S y.T.v y.to:=(N.w.at F).T.sl;obtain⟨A,A,S,S,_,_,uN⟩:=w.read (i:=0) (x:=t) (by rw[M];rfl);obtain⟨A,A,A,A,_,_,Lj⟩:=w.read (i:=1) (x:=u) (by rw[M];rfl);have rt:=uN 0 1 ai;have w:=Lj 0 1 ai;simp[-ay] at rt w S A;rw[S.1] at A;simp at A;have⟨⟨e1,e2⟩,e3⟩:=A;subst e1 e2;have A:y.T.l=2:=by rw[mR,M];rfl
    rw[S.1,A] at s;have A:=P.to y.g (cK U);rw[c,yd] at A;have S:=A t ag;have S:=A u ag;obtain⟨t,rfl⟩:∃a:Nat,t=a:=⟨t.toNat,J⟩;obtain⟨u,rfl⟩:∃a:Nat,u=a:=⟨u.toNat,J⟩;have hHs:=g4.get q yS;have Uh:(t:Int)≠u:=hn;have⟨A,S⟩:=aR z t;have⟨A,hyu⟩:=aR z u;by_cases v:y.on.2=0
    simp[O,C,s,v,G,f,I,rt,w,-ay,aD s];refine Tp ot N.w (by have:=N.g.ax;have:=d.ax;omega) ⟨_,hHs⟩ nH1 P (to1:=(u:Int)) F S (by rw[M];simp[Uh]) (av f) (av I) ag ag ag ?_;intro e5 h5 o S T5 M5;have A:=S.at (t:=2) (aq G);have k3:=S.at (t:=3) (aq f);have k4:=S.at (t:=4) (aq I);simp[k4,j];refine⟨Y ys-(i+1),J,i+1,o,Q,H,av A,av k3,ag,N.trans T5,?_⟩;rw[M5,eJ];unfold B9;rw[U];dsimp only;rw[bH ⟨O,C⟩,show y.g.on.2=0 from v,bH Q,c];rfl
    simp[O,C,s,v,G,f,I,rt,w,-ay,aD s];refine Tp ot N.w (by have:=N.g.ax;have:=d.ax;omega) ⟨_,hHs⟩ nH1 P (to1:=(t:Int)) F hyu (by rw[M];simp[a7 Uh]) (av f) (av I) ag ag ag ?_;intro e5 h5 o S T5 M5;have A:=S.at (t:=2) (aq G);have k3:=S.at (t:=3) (aq f);have k4:=S.at (t:=4) (aq I);simp[k4,j];refine⟨Y ys-(i+1),J,i+1,o,Q,H,av A,av k3,ag,N.trans T5,?_⟩;rw[M5,eJ];unfold B9;rw[U];dsimp only;rw[bH ⟨O,C⟩,bM (show ¬y.g.on.2=0 from v),c];rfl
  .have P:(y.kind !=3)=cd:=by simp[O]
   simp[P,s,G,f,I,j,-ay,aD s];exact⟨Y ys-(i+1),J,i+1,z,Q,H,av G,av f,ag,N,same (λh=>O h.1)⟩
 .have:i=Y ys:=J
  subst this;have c:=g.get d.ok xG oR;have A:=n;rw[k] at A;simp[G,f,I,A,k,c];have f:=aX (off:=0) (vs:=[eT name,dC ef p,dC ef r,c6 B.a (Y ys) B.c]) q c;have w:=d.ax;have C:=g.ax;have s:az aV h X:=((g1.trans L).trans d).trans' g aj (λc M ⟨l,e⟩=>aw (W.new l c e));exact⟨s.trans' f aj (λc M e=>J),B,z,by simp[aC,k],(T.w.go q f λc l e z=>aw (T.w.new l c z)).cX J,T.x x,by rw[D,M',mj]⟩
end Go.Proofs.YtdhnndleffachaaGreatDoor
namespace Go.AI.Dfs
section
variable{a:List (List Nat)}{n:Nat}
def Hu(w:∀b t,t∈row a b->t<n){k:Nat}(q:∀b s,Y s.seen=n->b<n->¬s.seen[b]?=Z cd->de s<=k->visitM a (k+1) b s=visitM a k b s):∀(l:List Nat)(s:DS),Y s.seen=n->(∀t∈l,t<n)->de s<=k->foldM a (k+1) l s=foldM a k l s
 |[],_,_,_,_=>rfl
 |t::l,s,o,m,f=>by rw[kR,kR];by_cases c:s.seen[t]?=Z cd;rw[bH c,bH c];exact Hu w q l s o (λt h=>m t (vU _ h)) f;rw[bM c,bM c,q t s o (m t (iz ..)) c f];obtain⟨v,v,_⟩:=MZ w k t s o (m t (iz ..)) c f;refine Hu w q l _ v.len (λt h=>m t (vU _ h)) (wV ?_ f);exact countP_le (o.trans v.len.symm) λx G=>(v.seen x).2 (fc G)
def MX(c:∀b t,t∈row a b->t<n):∀(k b:Nat)(s:DS),Y s.seen=n->b<n->¬s.seen[b]?=Z cd->de s<=k->visitM a (k+1) b s=visitM a k b s
 |0,b,s,m,q,f,o=>aw (oJ (s:=s) J f)
 |k+1,b,s,m,q,f,o=>by rw[gZ,gZ a k];have w:=oJ (s:=s) J f;rw[Hu c (MX c k) _ _ (ak m) (λt h=>c b t (jT.1 h)) J]
def MY(c:∀b t,t∈row a b->t<n){k b:Nat}{s:DS}(q:Y s.seen=n)(f:b<n)(o:¬s.seen[b]?=Z cd)(w:de s<=k):∀m,visitM a (k+m) b s=visitM a k b s
 |0=>rfl
 |m+1=>by rw[<-DJ,MX c (k+m) b s q f o J,MY c q f o w m]
end
structure Sm(A:List Nat)(s s':DS):Prop where
 seen:∀i k:Nat,A[i]?=Z k->s'.seen[i]?=s.seen[k]?
 left:s.left=s'.left.map λi=>(A[i]?).getD 0
 l1:Y s'.seen=Y A
 l2:∀k∈A,k<Y s.seen
section
variable{d a:List (List Nat)}{A:List Nat}
def KM{k:Nat}(o:∀i b s c,A[i]?=Z b->Sm A s c->Sm A (visitM d k b s) (visitM a k i c)):∀(f:List Nat)(s c:DS),(∀t∈f,t<Y A)->Sm A s c->Sm A (foldM d k (f.map λi=>(A[i]?).getD 0) s) (foldM a k f c)
 |[],_,_,_,h=>h
 |t::f,s,c,q,h=>by
  rw[zZ,kR,kR];have G:=q t (iz ..);have⟨b,w⟩:=aR A t G;have e:(A[t]?).getD 0=b:=by rw[w];rfl
  rw[e,<-h.seen t b w];by_cases m:c.seen[t]?=Z cd;rw[bH m,bH m];exact KM o f s c (λt h=>q t (vU _ h)) h;rw[bM m,bM m];exact KM o f _ _ (λt h=>q t (vU _ h)) (o t b s c w h)
def PO(g:A.Nodup)(G:∀i b,A[i]?=Z b->row d b=(row a i).map (λi=>(A[i]?).getD 0)/\∀t∈row a i,t<Y A):∀(k i b:Nat)(s f:DS),A[i]?=Z b->Sm A s f->Sm A (visitM d k b s) (visitM a k i f)
 |0,_,_,_,_,_,h=>h
 |k+1,i,b,s,f,m,h=>by
  have⟨N,n⟩:=G i b m;have I:=(cR.mp m).1;have l:Sm A ⟨s.seen.set b cd,s.left⟩ ⟨f.seen.set i cd,f.left⟩:=by
   refine⟨λj c q=>?_,h.left,ak h.l1,λk M=>ak (h.l2 k M)⟩;show(f.seen.set i cd)[j]?=(s.seen.set b cd)[c]?;rw[fq,fq];by_cases e:i=j
   subst e;rw[m] at q;cases q;rw[bH Q,bH Q,bH (by rw[h.l1];exact I),bH (h.l2 b (cK m))];have w:b≠c:=λw=>e (by subst w;exact(ga I g).1 (m.trans q.symm));rw[bM e,bM w];exact h.seen j c q
  have o:=KM (PO g G k) (row a i).reverse _ _ (λt O=>n t (jT.1 O)) l;rw[gZ,gZ,N,<-Pz];refine⟨o.seen,?_,o.l1,o.l2⟩;show _++[b]=List.map _ (_++[i]);rw[aW,o.left];simp[m]
end
end Go.AI.Dfs
namespace Go.Proofs.YtdhnndleffachaaGreatDoor
open Go.AI
variable{p H:SV}{z:bJ->Env->aB->Prop}{U X C D:Nat}{b:GB}{bs g t:List GB}{e:Env}{es l:List Int}{d:List GG}{h:aB}{r:Int}{u:GU}{x:GI}
def Vg{k:Nat}{x:GB}(h:bs[k]?=Z x):Dfs.row (gT bs) k=x.to.map Int.toNat:=by unfold Dfs.row gT;rw[gu,h];rfl
def agj{A:List Nat}(C:mL g A)(E:EB g):ux A (dU (bu g A))=dU g:=by
 have M:Y (bu g A)=Y A:=by simp[bu]
 have O:=C.eb E;have L:=C.o.len;have I:∀i b,A[i]?=Z b->Dfs.row (gT g) b=(Dfs.row (gT (bu g A)) i).map (λi=>(A[i]?).getD 0)/\∀t∈Dfs.row (gT (bu g A)) i,t<Y A:=λi b q=>by have⟨x,G⟩:=aR g b (C.o.lt b (cK q));rw[Vg G,Vg (xM q G)];simp only[eM];refine⟨?_,λt m=>?_⟩;rw[gN,gN];refine bf λu k=>?_;obtain⟨S,v,rfl,a,f,_⟩:=C.RK E (cK q) G k;simp[f,a];obtain⟨w,N,rfl⟩:=iT.1 m;obtain⟨u,k,rfl⟩:=iT.1 N;obtain⟨S,v,rfl,a,f,_⟩:=C.RK E (cK q) G k;have:=(cR.mp a).1;simp[f,this]
 have S:=Dfs.PO C.o.nd I (Y g) 0 0 ⟨an (Y g) b9,[]⟩ ⟨an (Y A) b9,[]⟩ C.z ⟨λi k o=>by have a:=(cR.mp o).1;have f:=C.o.lt k (cK o);simp[a,f],Q,ag,λk o=>ak (C.o.lt k o)⟩;have m:∀b t,t∈Dfs.row (gT (bu g A)) b->t<Y A:=λb t m=>by have:=xS O.ends b t m;rw[M] at this;exact this
 have c:=Dfs.MY (k:=Y A) (b:=0) (s:=⟨an (Y A) b9,[]⟩) m ag (by have:=(cR.mp C.z).1;exact this) (by simp[TV]) (by unfold Dfs.de;exact wV List.countP_le_length ag) (Y g-Y A);rw[Nat.add_sub_cancel' L] at c;have L:=S.left;rw[c] at L;unfold ux dU;rw[Pz,M];exact congrArg List.reverse L.symm
def abz{bs t n:List GB}(E:EB bs)(s:CU (bu bs (dU bs)) t)(c:∀x,wP t x)(S:Steps (bu bs (dU bs)) n)(no:∀x,wP n x):bu t (dU t)=bu n (dU n):=by obtain⟨A,f,C,rfl⟩:=s.done (E.Gu.eb E) (ajM E) c S no;rw[O9 C f (C.eb f).Gu,agj C f]
def Gn(p:Int->Bool):∀(es l:List Int),(∀x∈es,p x=b9->x∈l)->dp l es=dp l (es.filter p)
 |[],_,_=>rfl
 |e::es,l,h=>by
  have f:∀x∈es,p x=b9->x∈dN l e:=λx m c=>(Pj l e).subset (h x (vU _ m) c);cases c:p e
  .rw[bO (av c)];have:dN l e=l:=by unfold dN;rw[bH (h e iz c)]
   show dp (dN l e) es=_;rw[this] at f⊢;exact Gn p es l f
  rw[db c];exact Gn p es _ f
def agr{l es a:List Int}(h:es.filter (λe=> !decide (e∈l))=a.filter (λe=> !decide (e∈l))):dp l es=dp l a:=by rw[Gn (λe=> !decide (e∈l)) es l (λx _ h=>ak h),Gn (λe=> !decide (e∈l)) a l (λx _ h=>ak h),h]
def W3(x:GI):Prop:=qk (fO x)=mh x.a++(mh x.b++qk x.args)
def EE{v:Bool×Int}(h:v.1=b9):mh v=[]:=by unfold mh;rw[h];rfl
def yG.inF{c:Int}(h:yG c x):W3 x:=by
 have c:=h.form;have s:=h.op;unfold cO dP at c;unfold W3 fO;by_cases o:x.op=21
 rw[bH o];simp[o] at c;rw[EE c.1.1,EE c.2.1.1,c.2.2.2];rfl;rw[bM o];by_cases m:x.op=20;rw[bH m];simp[m] at c;rw[EE c.1.1,EE c.2.1];rfl;rw[bM m];by_cases f:(2<=x.op/\x.op<=15)\/x.op=19
 .rw[bH f];have:¬(x.op=1\/x.op=16\/x.op=17\/x.op=18):=J
  rw[bM this] at c;have q:x.args=[]:=by
   rcases f with f|f;rw[bH f] at c;simp[m] at c;exact c.2
   .have:¬(2<=x.op/\x.op<=15):=J
    simp[f] at c;exact c.2.2
  rw[q];simp[qk]
 .rw[bM f,bH J];have e:¬(2<=x.op/\x.op<=15):=J
  have w:¬x.op=19:=J
  have:x.b.1=b9/\x.args=[]:=by
   by_cases q:x.op=1\/x.op=16\/x.op=17\/x.op=18;rw[bH q] at c;simp[m] at c;exact⟨c.1.1,c.2.2⟩
   .have:x.op=22:=J
    simp[this] at c;exact⟨c.2.1.1,c.2.2.2⟩
  rw[EE this.1,this.2];simp[qk]
def JI:∀(a:List (Bool×Int))(l:List Int),gz l a=dp l (qk a)
 |[],_=>rfl
 |v::a,l=>by
  have b:gz l (v::a)=gz (if v.1 then dN l v.2 else l) a:=Q;have c:qk (v::a)=mh v++qk a:=by simp[qk]
  rw[b,c,eW,JI a];unfold mh;split<;>rfl
def ajP(h:W3 x)(l:List Int):HR l x=dp l (Cw x):=by unfold HR Cw;rw[<-KN,<-KN,KN (mh x.a),<-h,eW,JI];split<;>rfl
def aaG:∀ {a:List GI},(∀x∈a,W3 x)->∀l,yn l a=dp l (a.flatMap Cw)
 |[],_,_=>rfl
 |x::a,h,l=>by show yn (HR l x) a=_;rw[ei,eW,ajP (h x iz),aaG λy c=>h y (vU _ c)]
def aaI:∀(a:List GP)(l:List Int),HP l a=dp l (a.map (·.dst))
 |[],_=>rfl
 |p::a,l=>aaI a (dN l p.dst)
def BsF(bs:List GB):Prop:=∀b∈bs,∀x∈b.list,W3 x
def ajO(h:∀x∈b.list,W3 x)(l:List Int):Yv l b=dp l (QD b):=by unfold Yv QD;rw[aaI,aaG h,eW,eW,JI];simp[qk]
def Cb:∀ {bs:List GB},BsF bs->∀l,ta l bs=dp l (bs.flatMap QD)
 |[],_,_=>rfl
 |b::bs,h,l=>by show ta (Yv l b) bs=_;rw[ei,eW,ajO (h b iz),Cb λy c=>h y (vU _ c)]
def ev3(b:GB):List Int:=b.aP.flatMap λq=>qk q.row
def Rj:∀(a:List GP)(l:List Int),Dq l a=dp l (a.flatMap λq=>qk q.row)
 |[],_=>rfl
 |p::a,l=>by show Dq (gz l p.row) a=_;rw[ei,eW,Rj a,JI]
def Gq:∀(bs:List GB)(l:List Int),AB l bs=dp l (bs.flatMap ev3)
 |[],_=>rfl
 |b::bs,l=>by show AB (Dq l b.aP) bs=_;rw[ei,eW,Gq bs,Rj];rfl
def Ht{b:Type}{p:Int->Bool}{f g:b->List Int} :∀ {a:List b},(∀x∈a,(f x).filter p=(g x).filter p)->(a.flatMap f).filter p=(a.flatMap g).filter p
 |[],_=>rfl
 |x::a,h=>by rw[ei,ei,e6,e6,h x iz,Ht λy c=>h y (vU _ c)]
def OJ{p:Int->Bool}(h:∀x∈es,p x=b9):es.filter p=[]:=ns.2 λx c=>by simp[h x c]
def aaH{p:Nat}(h:BsF bs):Gp p bs=pX p bs:=by
 unfold Gp pX;rw[Gq,Cb h];refine agr (Ht λb m=>?_);have f:∀x∈QD b,decide (x∈dp (j9 p) (bs.flatMap QD))=cd:=λx c=>ak (tc _ _ (a8.2 ⟨b,m,c⟩))
 unfold ev3 Ix;rw[e6,OJ (es:=b.list.flatMap Cw++mh b.on) (λx c=>by simp[f x (aT _ c)]),ye];refine Ht λq o=>?_;unfold uL;rw[e6,OJ (es:=[q.dst]) (λx c=>by cases List.mem_singleton.1 c;simp[f q.dst (ba _ (iT.2 ⟨q,o,Q⟩))])];rfl
def QE{l:List (Bool×Int)} :r∈qk l↔(cd,r)∈l:=by unfold qk mh;rw[a8];constructor;rintro⟨⟨a,b⟩,h,e⟩;cases a<;>simp at e;subst e;exact h;intro h;exact⟨_,h,ag⟩
def yG.inV{c:Int}(h:yG c x):qk (eD x)=qk (fO x):=by
 rw[h.inF];have c:=h.form;unfold cO at c;have e:∀a b:List (Bool×Int),qk (a++b)=qk a++qk b:=λa b=>by simp[qk]
 have o:∀v:Bool×Int,qk [v]=mh v:=λv=>by simp[qk]
 unfold eD;rw[e,e];congr 1;split;exact o _;rename_i k;simp[k] at c;rw[EE (av c)];rfl;congr 1;split;exact o _;rename_i k;simp[k] at c;rw[EE (av c)];rfl
def AL{c:Type}(E:ly c)(d:Nat)(h:aB)(v:aa)(a:List c):Prop:=bx E d h v a\/∃b s,v=c6 (Z ⟨b,0,K⟩) (Y a) (Y a)/\h.tr.get b=Z (.ch (E.flat a) b9 0 s)/\d<=b
section
variable{a:Type}{E:ly a}{j:Nat}{h n:aB}{v:aa}{i k:List a}
def AL.sv(a:AL E j h v i):∃L:SV,v=L.v:=by rcases a with a|⟨b,s,rfl,_⟩;exact bx.Fj a;exact⟨⟨Z ⟨b,0,K⟩,_,_⟩,Q⟩
def AL.of(a:AL E j h v i){c:Nat}(o:bD v c):j<=c:=by rcases a with a|⟨b,s,rfl,_,f⟩;exact bx.of a o;have⟨_,_,_,e⟩:=o;cases e;exact f
def AL.sl(a:AL E j h v i):bj E h v i:=by rcases a with a|⟨b,s,rfl,c,_⟩;exact a.sl;exact⟨_,_,Q,ft ⟨b,0,_,_,_,_,Q,c,ag,by simp[nz]⟩⟩
def AL.cr(a:AL E j h v i)(c:cy h)(g:az aV h n):AL E j n v i:=by rcases a with a|⟨b,s,e,m,f⟩;exact fc (a.grow c g λ_ _ h=>h);exact ft ⟨b,s,e,g.get c m,f⟩
def Fq(m:cy h){bytes:Nat}{z:List aa}{w:aa}(f:Y z=E.sz)(a:AL E j h v i)(q:bj E h w k)(o:Y i+Y k<1000000)(d:bytes<=1000)(M:j<=h.ax):∃c n,gi h z bytes b9 v w=Z (c,n)/\AL E j n c (i++k)/\az (bD v) h n:=by
 rcases a with a|⟨b,s,rfl,I,W⟩;have⟨c,n,e,S,g⟩:=r9 m f a q o d M;exact⟨c,n,e,fc S,g⟩
 .unfold gi;rw[CJ f q];dsimp only;have G:=E.pos;have O:E.sz≠0:=J
  rcases k with _|⟨y,k⟩;refine⟨c6 (Z ⟨b,0,K⟩) (Y i) (Y i),h,?_,by rw[ye];exact ft ⟨b,s,Q,I,W⟩,.refl m⟩;simp[dz,f,G];have V:roomy (Y i+(Y k+1))=cd:=by simp[roomy];simp at o;omega
  have N:roomy ((Y i+(Y k+1))*bytes)=cd:=by have:(Y i+(Y k+1))*bytes<=1000000*1000:=Nat.mul_le_mul (by simp at o;omega) d;simp[roomy];omega
  have o:¬(Y i)+(Y k+1)<=Y i:=J
  have d:(E.flat i).take (Y i*E.sz)=E.flat i:=nz ag;refine⟨c6 (Z ⟨h.ax,0,K⟩) (Y i+(Y k+1)) (Y i+(Y k+1)),aM h (E.flat i++E.flat (y::k)) E.sz,?_,fc (ft ⟨h.ax,0,ag,by rw[ly.dX];exact bY _ _ _,ag,M⟩),(aZ m _ _).cr⟩;simp[dz,f,G,V,N,I,o,d,O]
def aeN{x:a}(c:c_ h j (E.enc x)):AL E j h (c6 (Z ⟨j,0,K⟩) 1 1) [x]:=by have⟨s,c⟩:=c;exact ft ⟨j,s,Q,by simpa [ly.flat] using c,fE _⟩
end
def BR{a y:Type}{f:a->List y}{k:Nat} :∀ {xs:List a},(∀x∈xs,Y (f x)<=k)->Y (xs.flatMap f)<=Y xs*k
 |[],_=>ag
 |x::xs,h=>by have y:=h x iz;have m:=BR (f:=f) (xs:=xs) λy c=>h y (vU _ c);rw[ei,IA,kb,qB];omega
def Sp(h:aB)(v:aa)(a:aB):Prop:=az aV h a/\v=dd cd
def SmI(A b:SV)(n:Nat)(h:aB)(m:Nat)(e:Env)(a:aB):Prop:=
 ∃j:Nat,m=n-j/\j<=n/\bX e 0=A.v/\bX e 1=b.v/\bz e 5 j/\az aV h a
section
variable{h:aB}{A a:SV}
def ML(d:cy h){c:List Int}(s:ae nR 1 h A.v c)(M:ae nR 1 h a.v c)(G:Y c<10000000):aY FF 154 [A.v,a.v] h (Sp h):=by
 have G:=ae.len s;have I:=ae.len M;refine aY.of Eu ?_;unfold vF;simp[G,I];refine aN.loop (SmI A a (Y c) h) ?_ (n:=Y c) ⟨0,Q,J,av G,av I,ag,.refl d⟩;rintro m e i⟨j,rfl,f,f,q,k,g⟩;simp at f q;rw[G] at f;rw[I] at q;unfold tp;by_cases w:j<Y c
 have W:=bZ ((j:Int)+1) J J;have⟨x,S⟩:=aR c j w;obtain⟨b,V,V,V,_,_,rfl,o,N⟩:=ae.later d s S;obtain⟨s,s,s,O,_,_,rfl,l,s⟩:=ae.later d M S;have r:=N i g 0 1 ai;have N:=s i g 0 1 ai;simp[-ay] at r N;rw[V] at f;rw[O] at q;have i:=g.bU o;have o:=g.bU l;simp[f,q,k,w,r,N,i,o,W,aK,-ay];exact⟨Y c-(j+1),J,j+1,Q,w,by simp[f,V,G],by simp[q,O,I],ag,by first|exact g.tick|exact g⟩
 simp[f,k,w,show j=Y c by omega];exact⟨g,Q⟩
def MR(d:cy h){c:List (Bool×Int)}(s:ae vR 2 h A.v c)(M:ae vR 2 h a.v c)(G:Y c<10000000):aY FF 212 [A.v,a.v] h (Sp h):=by
 have G:=ae.len s;have I:=ae.len M;refine aY.of Ew ?_;unfold vH;simp[G,I];refine aN.loop (SmI A a (Y c) h) ?_ (n:=Y c) ⟨0,Q,J,av G,av I,ag,.refl d⟩;rintro m e i⟨j,rfl,f,f,q,k,g⟩;simp at f q;rw[G] at f;rw[I] at q;unfold tq;by_cases w:j<Y c
 have W:=bZ ((j:Int)+1) J J;have⟨x,S⟩:=aR c j w;obtain⟨b,V,V,V,_,_,rfl,o,N⟩:=ae.later d s S;obtain⟨s,s,s,O,_,_,rfl,l,s⟩:=ae.later d M S;have r:=N i g 0 2 ai;have N:=s i g 0 2 ai;simp[-ay] at r N;rw[V] at f;rw[O] at q;have i:=g.bU o;have o:=g.bU l;simp[f,q,k,w,r,N,i,o,W,aK,-ay];exact⟨Y c-(j+1),J,j+1,Q,w,by simp[f,V,G],by simp[q,O,I],ag,by first|exact g.tick|exact g⟩
 simp[f,k,w,show j=Y c by omega];exact⟨g,Q⟩
def adC(f:cy h)(s:ae vR 2 h A.v x.args)(m:ae vR 2 h a.v x.args)(q:Y x.args<10000000):aY FF 213 [eU ⟨jw x A⟩,eU ⟨jw x a⟩] h (Sp h):=by
 refine aY.of FQ ?_;unfold xy;have b:¬h.ax=h.ax+1:=J
 simp[jw,aQ,b];refine bm.cut (λb=>az aV h b) (((az.refl f).new _ _).new _ _) ?_;intro b c;refine bm.call (V:=Sp b) (ak (MR c.ok (s.mono f c λ_ _ r=>r) (m.mono f c λ_ _ r=>r) q)) ?_;rintro _ w⟨o,rfl⟩;simp;exact⟨c.trans o,Q⟩
end
def SbI(b:aB)(X k n m:Nat)(e:Env)(a:aB):Prop:=
 ∃j:Nat,m=n-j/\j<=n/\cg e 2 X/\cg e 3 (X+1)/\bz e k j/\az aV b a
section
variable{a i:aB}{P L T v n k:SV}{b:GB}{X D y:Nat}
def adB(G:cy a)(I:az aV a i)(d:Nr a P L T b)(l:Nr a v n k b)(s:dR i X (dj P L T b) D)(O:dR i (X+1) (dj v n k b) y)(h:cg e 2 X)(S:cg e 3 (X+1))(M:bz e 5 0)(C:∀j c,cg j 2 X->cg j 3 (X+1)->az aV i c->z (.exit 0) j c):aN FF (.loop kx) e i z:=by
 have t:=ae.len d.sP;have W:=ae.len l.sP;have m:=d.lp;refine aN.loop (SbI i X 5 (Y b.aP)) ?_ (n:=Y b.aP) ⟨0,Q,J,h,S,M,.refl I.ok⟩;rintro m j c⟨j,rfl,M,M,h,S,g⟩;have N:=g.ok;have q:=I.trans g;have f:=g.get I.ok s;have s:=g.get I.ok O;simp[dj] at f s;rw[t] at f;rw[W] at s;unfold kx;by_cases O:j<Y b.aP
 have t:=bZ ((j:Int)+1) J J;have⟨p,W⟩:=aR b.aP j O;obtain⟨I,I,I,E,_,_,⟨A,rfl,x⟩,u,I⟩:=ae.later G d.sP W;obtain⟨A,A,A,A,_,_,⟨F,rfl,F⟩,B,o⟩:=ae.later G l.sP W;have m:=I c q 0 1 ai;have l:=I c q 1 1 ai;have I:=o c q 0 1 ai;have w:=o c q 1 1 ai;simp[-ay] at m l I w;rw[E] at f;rw[A] at s;have o:=q.bU u;have A:=q.bU B;have u:=N.bU f;have B:=N.bU s;simp[M,h,S,f,s,aD f,aD s,O,m,l,I,w,o,A,u,B,aK,-ay];have s:=bk N;generalize tick c=h2 at*;have c:=q.trans s;refine ck.call (V:=Sp h2) (ak (MR s.ok (x.mono G c λ_ _ r=>r) (F.mono G c λ_ _ r=>r) (aw (d.lr p (cK W))))) ?_;rintro _ W⟨W,rfl⟩;simp[S,t];exact⟨Y b.aP-(j+1),J,j+1,Q,O,av M,av h,ag,(g.trans s).trans W⟩
 simp[M,S,f,aD f,show j=Y b.aP by omega,-ay];exact C _ _ (av M) (av h) g
def adA(w:cy a)(G:az aV a i)(h:Nr a P L T b)(S:Nr a v n k b)(q:dR i X (dj P L T b) D)(O:dR i (X+1) (dj v n k b) y)(d:cg e 2 X)(N:cg e 3 (X+1))(j:bz e 6 0)(C:∀I c,cg I 2 X->cg I 3 (X+1)->az aV i c->z (.exit 2) I c):aN FF (.loop kv) e i z:=by
 have l:=ae.len h.sL;have W:=ae.len S.sL;have M:=h.ll;refine aN.loop (SbI i X 6 (Y b.list)) ?_ (n:=Y b.list) ⟨0,Q,J,d,N,j,.refl G.ok⟩;rintro m I c⟨j,rfl,I,d,I,N,g⟩;have M:=g.ok;have s:=G.trans g;have f:=g.get G.ok q;have q:=g.get G.ok O;simp[dj] at f q;rw[l] at f;rw[W] at q;unfold kv;by_cases O:j<Y b.list
 have l:=bZ ((j:Int)+1) J J;have⟨x,W⟩:=aR b.list j O;obtain⟨G,G,G,A,_,_,⟨G,rfl,m⟩,o,G⟩:=ae.later w h.sL W;obtain⟨p,p,p,p,_,_,⟨B,rfl,B⟩,u,t⟩:=ae.later w S.sL W;have r:=G c s 0 8 ai;have S:=t c s 0 8 ai;simp[aQ,-ay] at r S;rw[A] at f;rw[p] at q;have t:=s.bU o;have p:=s.bU u;have o:=M.bU f;have G:=M.bU q;simp[d,I,N,f,q,aD f,aD q,O,r,S,t,p,o,G,aK,-ay];have S:=bk M;generalize tick c=h2 at*;have c:=s.trans S;refine ck.call (V:=Sp h2) (by simpa [jw,aQ] using adC S.ok (x:=x) (m.mono w c λ_ _ r=>r) (B.mono w c λ_ _ r=>r) (aw (h.la x (cK W)))) ?_;rintro _ W⟨W,rfl⟩;simp[N,l];exact⟨Y b.list-(j+1),J,j+1,Q,O,av d,av I,ag,(g.trans S).trans W⟩
 simp[d,N,f,aD f,show j=Y b.list by omega,-ay];exact C _ _ (av d) (av I) g
def Vr(o:cy a)(c:Nr a P L T b)(m:Nr a v n k b):aY FF 155 [eU ⟨dj P L T b⟩,eU ⟨dj v n k b⟩] a (Sp a):=by
 refine aY.of De ?_;unfold uq;have I:¬a.ax=a.ax+1:=J
 have S:=ae.len c.sP;have W:=ae.len m.sP;have N:=ae.len c.sL;have f:=ae.len m.sL;simp[dj,I,S,W,N,f];refine aN.cut (λi=>az aV a i/\(c_ i a.ax (dj P L T b))/\c_ i (a.ax+1) (dj v n k b)) ⟨((az.refl o).new _ _).new _ _,⟨0,by simp[dj,I,S,N]⟩,0,by simp[dj,W,f]⟩ ?_;rintro i⟨f,⟨W,I⟩,W,d⟩;refine adB o f c m I d ag ag ag ?_;intro W W G w q;simp;refine adA o (f.trans q) c m (q.get f.ok I λh=>h) (q.get f.ok d λh=>h) (av G) (av w) ag ?_;intro W W G w s;have e:=q.trans s;have s:=f.trans e;have O:=e.get f.ok I;have M:=e.get f.ok d;simp[dj] at O M;simp[G,w,O,M];refine bm.call (V:=Sp W) (ak (ML s.ok (c.sT.mono o s λ_ _ r=>r) (m.sT.mono o s λ_ _ r=>r) (aw c.lt))) ?_;rintro _ c⟨c,rfl⟩;simp;exact⟨s.trans c,Q⟩
end
def Hb.src{P L T:SV}(z:Hb b)(m:ae (pR h) 2 h P.v b.aP)(f:ae (iR h) 8 h L.v b.list)(c:ae nR 1 h T.v b.to):Nr h P L T b:=⟨m,f,c,z.lp,z.ll,z.lr,z.la,z.lt⟩
def aaK(b:ByteArray):(b==b)=cd:=by have⟨d⟩:=b;show(d==d)=cd;simp
section
variable{h:aB}{B a:SV}
def Zm(f:cy h){name:ByteArray}{p r:Int}(l:mm h B bs)(I:mm h a bs)(n:∀b∈bs,Hb b)(S:Y bs<1000000):aY FF 99 [eU ⟨aC name p r B⟩,eU ⟨aC name p r a⟩] h (Sp h):=by
 have S:=ae.len l;have d:=ae.len I;refine aY.of Et ?_;unfold vE;have q:¬h.ax=h.ax+1:=J
 simp[aC,q,S,d,aaK];refine aN.cut (λj=>az aV h j/\(c_ j h.ax (aC name p r B))/\c_ j (h.ax+1) (aC name p r a)) ?_ ?_;exact⟨((az.refl f).new _ _).new _ _,⟨0,by simp[aC,q,S]⟩,0,by simp[aC,d]⟩;rintro j⟨q,⟨w,w⟩,m,m⟩;refine aN.loop (SbI j h.ax 5 (Y bs)) ?_ (n:=Y bs) ⟨0,Q,J,ag,ag,ag,.refl q.ok⟩;rintro j e c⟨j,rfl,i,i,k,W,g⟩;have O:=g.ok;have G:=q.trans g;have s:=g.get q.ok w;have w:=g.get q.ok m;simp[aC] at s w;rw[S] at s;rw[d] at w;unfold tn;by_cases S:j<Y bs
 have m:=bZ ((j:Int)+1) J J;have⟨b,q⟩:=aR bs j S;have z:=n b (cK q);obtain⟨n,n,n,C,_,_,⟨P,L,T,rfl,x,n,u⟩,o,t⟩:=ae.later f l q;obtain⟨l,l,l,v,_,_,⟨l,l,l,rfl,N,M,l⟩,y,A⟩:=ae.later f I q;have d:=t c G 0 6 ai;have q:=A c G 0 6 ai;simp[-ay] at d q;rw[C] at s;rw[v] at w;have t:=G.bU o;have v:=G.bU y;have o:=O.bU s;have y:=O.bU w;simp[i,k,W,s,w,aD s,aD w,S,d,q,t,v,o,y,aK,-ay];have w:=bk O;generalize tick c=h2 at*;have q:=G.trans w;refine ck.call (V:=Sp h2) (by simpa [dj] using Vr w.ok (z.src (x.mono f q λ_ _ r=>r.mono f q) (n.mono f q λ_ _ r=>r.mono f q) (u.mono f q λ_ _ r=>r)) (z.src (N.mono f q λ_ _ r=>r.mono f q) (M.mono f q λ_ _ r=>r.mono f q) (l.mono f q λ_ _ r=>r))) ?_;rintro _ q⟨q,rfl⟩;simp[W,m];exact⟨Y bs-(j+1),J,j+1,Q,S,av i,av k,ag,(g.trans w).trans q⟩
 simp[i,W,s,aD s,show j=Y bs by omega,-ay];exact⟨G,Q⟩
def Oe(c:cy h){G S:SV}(s:ae (gR h) 3 h G.v d)(l:ae (gR h) 3 h S.v d)(A:Y d<1000000)(A:∀g∈d,Y g.init<10000000):aY FF 98 [G.v,S.v] h (Sp h):=by
 have O:=ae.len s;have i:=ae.len l;refine aY.of AQ ?_;unfold qz;simp[O,i];refine aN.loop (SmI G S (Y d) h) ?_ (n:=Y d) ⟨0,Q,J,av O,av i,ag,.refl c⟩;rintro m e a⟨j,rfl,G,f,w,G,g⟩;simp at f w;rw[O] at f;rw[i] at w;unfold pI;by_cases N:j<Y d
 have t:=bZ ((j:Int)+1) J J;have⟨x,k⟩:=aR d j N;obtain⟨b,S,S,p,_,_,⟨I,rfl,v⟩,u,S⟩:=ae.later c s k;obtain⟨s,s,s,n,_,_,⟨s,rfl,z⟩,y,W⟩:=ae.later c l k;have m:=S a g 0 1 ai;have l:=S a g 1 1 ai;have o:=S a g 2 1 ai;have S:=W a g 0 1 ai;have M:=W a g 1 1 ai;have q:=W a g 2 1 ai;simp[-ay] at m l o S M q;rw[p] at f;rw[n] at w;have s:=g.bU u;have W:=g.bU y;simp[f,w,G,N,m,l,o,S,M,q,s,W,aaK,aK,-ay];have M:=bk g.ok;generalize tick a=h2 at*;have W:=g.trans M;refine ck.call (V:=Sp h2) (ak (ML M.ok (v.mono c W λ_ _ r=>r) (z.mono c W λ_ _ r=>r) (A x (cK k)))) ?_;rintro _ k⟨k,rfl⟩;simp[G,t];exact⟨Y d-(j+1),J,j+1,Q,N,by simp[f,p,O],by simp[w,n,i],ag,W.trans k⟩
 simp[f,G,N,show j=Y d by omega];exact⟨g,Q⟩
def VA(s:cy h){G F W M:SV}(i:uR h G F u)(q:uR h W M u)(d:Y u.globals<1000000)(c:∀g∈u.globals,Y g.init<10000000)(o:Y u.funcs<1000000)(o:∀f∈u.funcs,(∀b∈f.blocks,Hb b)/\Y f.blocks<1000000):aY FF 47 [eU ⟨[G.v,F.v]⟩,eU ⟨[W.v,M.v]⟩] h (Sp h):=by
 have j:=ae.len i.2;have k:=ae.len q.2;refine aY.of Dg ?_;unfold uv;have O:¬h.ax=h.ax+1:=J
 simp[O];refine bm.cut (λw=>az aV h w/\(c_ w h.ax [G.v,F.v])/\c_ w (h.ax+1) [W.v,M.v]) ⟨((az.refl s).new _ _).new _ _,⟨0,av O⟩,0,ag⟩ ?_;rintro w⟨M,⟨O,F⟩,O,G⟩;have O:=i.mono s M;have S:=q.mono s M;refine bm.call (V:=Sp w) (ak (Oe M.ok O.1 S.1 d c)) ?_;rintro _ W⟨w,rfl⟩;have O:=w.get M.ok F;have c:=w.get M.ok G;simp at O c;rw[j] at O;rw[k] at c;have S:=M.trans w;simp[O,c];refine aN.loop (SbI W h.ax 5 (Y u.funcs)) ?_ (n:=Y u.funcs) ⟨0,Q,J,ag,ag,ag,.refl w.ok⟩;rintro m e W⟨j,rfl,k,F,k,G,g⟩;have d:=g.ok;have M:=S.trans g;have I:=g.get w.ok O;have N:=g.get w.ok c;unfold qM;by_cases c:j<Y u.funcs
 have O:=bZ ((j:Int)+1) J J;have⟨f,w⟩:=aR u.funcs j c;have⟨m,S⟩:=o f (cK w);obtain⟨o,o,o,v,_,_,⟨B,rfl,n⟩,o,l⟩:=ae.later s i.2 w;obtain⟨i,i,i,i,_,_,⟨a,rfl,p⟩,t,r⟩:=ae.later s q.2 w;have q:=l W M 0 4 ai;have w:=r W M 0 4 ai;simp[-ay] at q w;rw[v] at I;rw[i] at N;have l:=M.bU o;have i:=M.bU t;have o:=d.bU I;have t:=d.bU N;simp[F,k,G,I,N,aD I,aD N,c,q,w,l,i,o,t,aK,-ay];have N:=bk d;generalize tick W=h3 at*;have W:=M.trans N;refine ck.call (V:=Sp h3) (by simpa [aC] using Zm N.ok (name:=f.name) (p:=f.params) (r:=f.aF) (mm.mono n s W) (mm.mono p s W) m S) ?_;rintro _ S⟨S,rfl⟩;simp[G,O];exact⟨Y u.funcs-(j+1),J,j+1,Q,c,av F,av k,ag,(g.trans N).trans S⟩
 simp[F,G,I,aD I,show j=Y u.funcs by omega,-ay];exact⟨M,Q⟩
end
def Z3(h:aB)(M:Nat)(G:SV)(d:List GG):Prop:=∃a:List XG,eo EC h G a/\SN a d/\(∀c,fy G=Z c->M<=c)/\∀(i:Nat)(y:XG)(g:GG),a[i]?=Z y->d[i]?=Z g->ZN M h y g
def Z3.go{S:Nat->Prop}{h m:aB}{M:Nat}{G:SV}{d:List GG}(w:Z3 h M G d)(f:cy h)(g:az S h m)(q:∀c,S c->c<M\/h.ax<=c):Z3 m M G d:=by
 have⟨m,G,y,s,I⟩:=w;refine⟨m,G.go f g λc m e=>?_,y,s,λi y x a b=>?_⟩;have:=s c e;have:=G.lt f e;have:=q c m;omega
 have⟨s,o⟩:=I i y x a b;exact⟨s.go f g λc m e=>by have:=o c e;have:=s.lt f e;have:=q c m;omega,o⟩
def Z3.view{h:aB}{M:Nat}{G:SV}{d:List GG}(w:Z3 h M G d):ae (gR h) 3 h G.v d:=by obtain⟨G,G,f,_,m⟩:=w;exact G.view f.1.symm λi y g a b=>by have⟨q,o⟩:=f.2 i y g a b;exact⟨y.I,by simp[q,o],(m i y g a b).1.view Q (λi x y a c=>by rw[a] at c;cases c;rfl)⟩
def axA(c:aB)(U X:Nat)(d:List GG)(m:Nat)(e:Env)(a:aB):Prop:=
 ∃(j:Nat) (G:SV) (b:List XG),m=Y d-j/\j<=Y d/\cg e 1 U/\cg e 2 (U+1)/\cg e 3 X/\bz e 4 j/\az (· =X) c a/\(c_ a X [G.v,c6 K 0 0])/\bx EC c.ax a G.v b/\SN b (d.take j)/\∀(i:Nat)(y:XG)(g:GG),b[i]?=Z y->d[i]?=Z g->ZN c.ax a y g/\∀c,fy y.I=Z c->¬bD G.v c
def Od{r m:aB}(cS:cy r)(zy:az aV r m)(hG:ae (gR r) 3 r H.v d)(hgl:Y d<=10)(Ac:∀g∈d,Y g.init<1000000)(hU:dR m U [H.v,p.v] C)(hUX:U≠X)(h0X:r.ax<=X)(hX:dR m X [c6 K 0 0,c6 K 0 0] D)(f1:cg e 1 U)(f2:cg e 2 (U+1))(f3:cg e 3 X)(f4:bz e 4 0)(C':∀A a (G:SV),cg A 1 U->cg A 2 (U+1)->cg A 3 X->az (· =X) m a->(c_ a X [G.v,c6 K 0 0])->Z3 a m.ax G d->z (.exit 0) A a):aN FF (.loop lQ) e m z:=by
 have l1:=ae.len hG;have eY:=zy.ok;refine aN.loop (axA m U X d) ?_ (n:=Y d) ⟨0,cU,[],Q,J,f1,f2,f3,f4,.refl eY,⟨D,hX⟩,fc ⟨Q,Q⟩,⟨Q,nofun⟩,nofun⟩;rintro m' A a⟨j,G,ys,rfl,hj,S,q2,u,q4,g,⟨RU,E⟩,l,L,hd⟩;have N:=g.ok;have lX:=eY.wf _ _ hX;have gg:az aV r a:=zy.trans' g aj (λc q e=>J);have O:=g.get eY hU hUX;simp at O E;rw[l1] at O;have yl:Y ys=j:=by have:=L.1;simp at this;omega
 unfold lQ;by_cases T:j<Y d
 .have wj:=bZ ((j:Int)+1) J J;have⟨x,F⟩:=aR d j T;obtain⟨b,off,c,ha,_,_,⟨I,rfl,sI⟩,o',cV⟩:=ae.later cS hG F;have r0:=cV a gg 0 3 ai;simp[-ay] at r0;rw[ha] at O;have gn:=g.ax;simp[S,u,q4,O,aD O,T,r0,aJ,bh,-ay];have⟨o,k⟩:∃o,o=put (aM a [eT ⟨⟨[]⟩⟩,dC ef 0,c6 K 0 0] 0) a.ax 0 [eT ⟨⟨[]⟩⟩,dC ef 0,c6 K 0 0] [eT x.name,dC ef x.size,c6 I.a I.l I.c] 0:=⟨_,Q⟩;have t:az aV a o:=by rw[k];exact(az.refl N).var _ _
  have n2:o.ax=a.ax+1:=by rw[k];simp
  have hY:o.tr.get a.ax=Z (.ch [eT x.name,dC ef x.size,I.v] b9 0 a.clock):=by rw[k];simp[bg]
  rw[<-k,<-n2];clear k;have iL:=gg.trans t;have⟨s,h4,e4,a4,M⟩:=Hi (bytes:=8) t.ok (E:=encI) (z:=[dC ef 0]) rfl ((LR sI).cr cS iL) (Ac x (cK F)) ai;have We:=M.get t.ok hY;refine df (ak e4) ?_;simp at We;have iG:=M.get t.ok (t.get N E (λh=>h));have lX':=N.wf _ _ E;have nXY:¬X=a.ax:=J
  have nYX:¬a.ax=X:=J
  have w:=aX (off:=2) (vs:=[s.v]) M.ok We;simp at w;have nC:=w.get M.ok iG nXY;have l4:=M.ax;have hY5:(put h4 a.ax 2 [eT x.name,dC ef x.size,c6 I.a I.l I.c] [c6 s.a s.l s.c] 0).tr.get a.ax=Z (.ch [eT x.name,dC ef x.size,c6 s.a s.l s.c] b9 0 h4.clock):=by rw[bc];rfl
  simp[We];generalize put h4 a.ax 2 _ _ 0=h5 at*;simp[u,nC,hY5];have a5:=(Fp a4).go M.ok w λc q e=>aw ((vb.fy M.ok a4 e).1)
  have V:∀c,fy s=Z c->o.ax<=c:=λc e=>(vb.fy M.ok a4 e).1;have l5:=w.ax;have v:=aZ w.ok (EC.enc ⟨x.name,x.size,s⟩) 0;have Q1:az (· =a.ax) a h5:=((t.trans M).cr).trans w;have jo:=(l.grow N Q1 (λc q e=>aw ((du l).lt N (dV (A:=G) q)))).grow w.ok v aj;have hw6:bj EC (aM h5 (EC.enc ⟨x.name,x.size,s⟩) 0) (c6 (Z ⟨h5.ax,0,K⟩) 1 1) [⟨x.name,x.size,s⟩]:=dx (bY _ _ _);have n6:(aM h5 (EC.enc ⟨x.name,x.size,s⟩) 0).ax=h5.ax+1:=Q;have⟨v',h7,ha7,aiy,n,W⟩:=fI (bytes:=48) v.ok (z:=[eT ⟨⟨[]⟩⟩,dC ef 0,c6 K 0 0]) rfl jo hw6 J ai J;obtain⟨G7,rfl⟩:=bx.Fj aiy;refine df (ak ha7) ?_;have nGX:¬bD G.v X:=λe=>aw (l.of e)
  have Su:=n.get v.ok (v.get w.ok nC λh=>h) nGX;simp[u,Su,q4,wj];have B:=aX (off:=0) (vs:=[G7.v]) n.ok Su;simp at B;have S':az (bD G.v) h5 h7:=v.cr.trans n;have aB0:∀c,bD G.v c->c<a.ax:=λc q=>(du l).lt N (dV (A:=G) q);refine⟨Y d-(j+1),J,j+1,G7,ys++[⟨x.name,x.size,s⟩],Q,T,av S,av q2,av u,ag,((g.trans' Q1 aj (λc q e=>J)).trans' S' aj (λc q e=>aw (l.of e))).trans B,⟨h7.clock,by rw[bc];rfl⟩,aiy.grow n.ok B (λc q e=>aw (W c q)),⟨by simp[yl];omega,λi y g f b=>?_⟩,λi y g f b=>?_⟩
  .rcases Bb i j with P|P;rw[Jf J] at f;refine L.2 i y g f ?_;rw[F8,bH P];rwa [F8,bH J] at b
   .have V':i=j:=by have:=(cR.mp f).1;simp at this;omega
    subst V';rw[Hv J,yl] at f;simp at f;rw[F8,bH J,F] at b;cases b;subst f;exact⟨Q,Q⟩
  .rcases Bb i j with P|P
   .rw[Jf J] at f;have⟨⟨k1,k2⟩,kn⟩:=hd i y g f b;have lt:=λc e=>k1.lt N (c:=c) e;have k3:=k1.go N Q1 λc q e=>aw (lt c e)
    have k4:=k3.go w.ok S' λc q e=>kn c e q;exact⟨⟨k4.go n.ok B λc q e=>aw (k2 c e),k2⟩,λc e k=>by have:=lt c e;have:=W c k;omega⟩
   .have V':i=j:=by have:=(cR.mp f).1;simp at this;omega
    subst V';rw[Hv J,yl] at f;simp at f;rw[F] at b;cases b;subst f;exact⟨⟨(a5.go w.ok S' λc q e=>by have:=aB0 c q;have:=V c e;omega).go n.ok B λc q e=>aw (V c e),λc e=>aw (V c e)⟩,λc e k=>by have:=a5.lt w.ok e;have:=W c k;omega⟩
 .have:j=Y d:=J
  subst this;rw[mI] at L;simp[S,q4,O,aD O,-ay];exact C' _ _ G (av S) (av q2) (av u) g ⟨RU,ak E⟩ ⟨ys,du l,L,λc e=>l.of (jt (du l) e),λi y g f b=>(hd i y g f b).1⟩
def axz(c:aB)(U X:Nat)(G:SV)(b:List GF)(m:Nat)(e:Env)(a:aB):Prop:=
 ∃(j:Nat) (F:SV) (d:List XF),m=Y b-j/\j<=Y b/\cg e 1 U/\cg e 2 (U+1)/\cg e 3 X/\bz e 6 j/\az (· =X) c a/\(c_ a X [G.v,F.v])/\bx wU c.ax a F.v d/\Y d=j
def Vj{d w:aB}(k:cy d)(T:az aV d w){H p G:SV}{l:List GF}(V:ae (fR d) 4 d p.v l)(m:Y l<=10)(W:∀f∈l,(∀b∈f.blocks,Hb b)/\Y f.blocks<100000)(y:dR w U [H.v,p.v] C)(O:U≠X)(m:d.ax<=X)(t:dR w X [G.v,c6 K 0 0] D)(u:cg e 1 U)(q:cg e 2 (U+1))(j:cg e 3 X)(o:bz e 6 0)(C':∀x i (F:SV) m,cg x 2 (U+1)->cg x 3 X->az (· =X) w i->(c_ i X [G.v,F.v])->bx wU w.ax i F.v m->Y m=Y l->z (.exit 2) x i):aN FF (.loop lM) e w z:=by
 have n:=ae.len V;have v:=T.ok;refine aN.loop (axz w U X G l) ?_ (n:=Y l) ⟨0,cU,[],Q,J,u,q,j,o,.refl v,⟨D,t⟩,fc ⟨Q,Q⟩,Q⟩;rintro u x i⟨j,F,m,rfl,L,r,B,E,P,g,⟨RU,I⟩,q,x⟩;have M:=g.ok;have u:=v.wf _ _ t;have o:az aV d i:=T.trans' g aj (λc A e=>J);have s:=g.get v y O;simp at s I;rw[n] at s;unfold lM;by_cases y:j<Y l
 .have G:=bZ ((j:Int)+1) J J;have⟨f,v⟩:=aR l j y;have⟨w,S⟩:=W f (cK v);obtain⟨b,n,c,L,_,_,⟨u,rfl,d⟩,a,N⟩:=ae.later k V v;have n:=N i o 0 4 ai;simp[-ay] at n;rw[L] at s;have V:=g.ax;have L:=o.bU a;have a:=M.bU s;have v:=M.bU I;have O:=M.st _ _ _ _ _ I;simp[r,E,P,s,I,aD s,aD I,y,n,L,a,v,aK,-ay];have N:=bk M;have v:=N.get M I;have u:=q.grow M N aj;have n:(tick i).ax=i.ax:=Q;generalize tick i=h3 at*;refine ck.call (V:=js f.name f.params f.aF f.blocks h3) (by simpa [aC] using tw k (o.trans N) (name:=f.name) (p:=f.params) (r:=f.aF) d w S) ?_;rintro _ W⟨T,a,t,rfl,_,_,_⟩;have k:=T.get N.ok v;have d:=T.ax;simp[aC,k,O];have O:=aZ T.ok (wU.enc ⟨f.name,f.params,f.aF,a⟩) 0;have v:=(u.grow N.ok T aj).grow T.ok O aj;have d:bj wU (aM W (wU.enc ⟨f.name,f.params,f.aF,a⟩) 0) (c6 (Z ⟨W.ax,0,K⟩) 1 1) [⟨f.name,f.params,f.aF,a⟩]:=dx (bY _ _ _);have o:(aM W (wU.enc ⟨f.name,f.params,f.aF,a⟩) 0).ax=W.ax+1:=Q;have⟨W,o,t,i,S,V⟩:=fI (bytes:=56) O.ok (z:=[eT ⟨⟨[]⟩⟩,dC ef 0,dC ef 0,c6 K 0 0]) rfl v d J ai J;obtain⟨M,rfl⟩:=bx.Fj i;refine kW (by simpa [aC] using t) ?_;have W:¬bD F.v X:=λe=>aw (q.of e)
  have L:=S.get O.ok (O.get T.ok k λh=>h) W;simp[E,L,P,G];have n:=aX (off:=1) (vs:=[M.v]) S.ok L;simp at n;exact⟨Y l-(j+1),J,j+1,M,m++[⟨f.name,f.params,f.aF,a⟩],Q,y,av r,av B,av E,ag,(((((g.trans N.cr).trans T.cr).trans O.cr).trans' S aj (λc A e=>aw (q.of e)))).trans n,⟨o.clock,by rw[bc];rfl⟩,i.grow S.ok n (λc A e=>aw (V c A)),av x⟩
 .have:j=Y l:=J
  subst this;simp[r,P,s,aD s,-ay];exact C' _ _ F m (av B) (av E) g ⟨RU,ak I⟩ q x
def RuQ(u:GU)(h:aB)(v:aa)(a:aB):Prop:=
 az aV h a/\∃(G F:SV) (c:List XF),v=eU ⟨[G.v,F.v]⟩/\eo wU a F c/\Y c=Y u.funcs/\(∀c,bD F.v c->h.ax<=c)/\∀(S:Nat->Prop)(f:aB),az S a f->(∀c,S c->bD F.v c\/a.ax<=c)->ae (gR f) 3 f G.v u.globals
def Zi(O:cy h)(a:uR h H p u)(y:Y u.globals<=10)(o:∀g∈u.globals,Y g.init<1000000)(l:Y u.funcs<=10)(n:∀f∈u.funcs,(∀b∈f.blocks,Hb b)/\Y f.blocks<100000):aY FF 15 [eU ⟨[H.v,p.v]⟩] h (RuQ u h):=by
 have c:¬h.ax=h.ax+1:=J
 have q:¬h.ax=h.ax+1+1:=J
 have N:¬h.ax+1=h.ax+1+1:=J
 refine aY.of Ej ?_;unfold vw;simp[c,q,N];refine aN.cut (λj=>az aV h j/\j.ax=h.ax+3/\(c_ j h.ax [H.v,p.v])/\(c_ j (h.ax+1) [c6 K 0 0,c6 K 0 0])/\c_ j (h.ax+1+1) [c6 K 0 0,c6 K 0 0]) ⟨(((az.refl O).new _ _).new _ _).new _ _,ag,⟨0,by simp[c,q]⟩,⟨0,ag⟩,0,ag⟩ ?_;rintro j⟨I,m,⟨C,X⟩,⟨B,S⟩,D,M⟩;refine Od O I a.1 y o (U:=h.ax) (X:=h.ax+1+1) X q J M ag ag ag ag ?_;intro m x G V M v m ⟨B,r⟩ W2;have E:az aV h x:=I.trans' m aj λc w e=>J
 have U:=m.get I.ok X q;have L:=m.get I.ok S N;simp;refine Vj O E a.2 l n (U:=h.ax) (X:=h.ax+1+1) U q J r (av V) (av M) (av v) ag ?_;intro r S F l M v o ⟨T,W⟩ acc zl;have B:az aV h S:=E.trans' o aj λc w e=>J
 have V:=o.get m.ok L N;simp at W;simp[M,v,W,V];have s:=aX (off:=0) (vs:=[G.v,F.v]) o.ok V;simp at s;have A:=m.ax;have A:=o.ax;have z:=s.ax;refine⟨B.trans' s aj λc w e=>J,G,F,l,ag,(du acc).go o.ok s (λc w e=>aw (acc.of (jt (du acc) e))),zl,λc w=>aw (acc.of w),λS U v M=>?_⟩;refine(W2.go m.ok (S:=λc=>c<j.ax\/x.ax<=c) (((o.cX λc _ e=>fc J).trans (s.cX λc _ e=>fc J)).trans (v.cX λc _ e=>?_)) (λc h=>h)).view;rcases M c e with e|e
 exact ft (acc.of e);exact ft J
def aa3:∀(a:List Nat)(L:List Nat),a.Nodup->(∀k∈a,k<Y L)->(a.map λk=>L.getD k 0).sum<=L.sum
 |[],_,_,_=>ag
 |k::a,L,f,b=>by
  have⟨d,q⟩:=kI.1 f;have f:=b k iz;have o:L[k]?=Z (L.getD k 0):=by simp[P8,f]
  have s:=zu L k 0 _ o;have m:=aa3 a (L.set k 0) q λj c=>by rw[lj];exact b j (vU _ c)
  have e:(a.map λj=>(L.set k 0).getD j 0)=a.map λj=>L.getD j 0:=bf λj c=>by have:k≠j:=λe=>d (e▸c);simp[P8,this]
  rw[e] at m;simp only[zZ,List.sum_cons];omega
def UG{c:List Nat}(o:Ord (Y bs) c):iH (bu bs c)<=iH bs:=by
 have:=aa3 c (bs.map λb=>Y b.list) o.nd λk c=>ak (o.lt k c)
 refine wV (Nat.le_of_eq ?_) this;unfold iH bu;rw[gN];congr 1;refine bf λk c=>?_;have:=o.lt k c;simp[P8,eM,this]
def qP(bs:List GB)(b:Int):Y (aI bs b)<=Y bs:=LU ((fF bs b).imp λh e=>J) λ_ h=>qO h
structure St(n:Nat)(bs:List GB):Prop where
 E:EB bs
 l:iH bs<=300
 p:∀b∈bs,Y b.aP<=300
 x:∀b∈bs,∀x∈b.list,W3 x/\Y x.args<=100/\qk (eD x)=qk (fO x)
 r:∀b∈bs,ve n (Ix b)
section
variable{n:Nat}{bs:List GB}
def St.ll(S:St n bs)(h:b∈bs):Y b.list<=300:=by have⟨i,c⟩:=iF h;have:=CG c;have:=S.l;omega
def St.rg(S:St n bs):xV n bs:=⟨S.r,λb c=>aw (S.p b c),λb c=>aw (S.ll c),λb c x f=>aw ((S.x b c x f).2)⟩
def St.kept(S:St n bs){m:List Nat}(C:mL bs m):St n (bu bs m):=by
 have o:∀b∈bu bs m,∃X∈bs,∃f N a,b=eM f N a X:=λb m=>by unfold bu at m;obtain⟨k,q,rfl⟩:=iT.1 m;have⟨X,c⟩:=aR bs k (C.o.lt k q);exact⟨X,cK c,_,_,_,by rw[c];rfl⟩
 refine⟨C.eb S.E,wV (UG C.o) S.l,λb m=>?_,λb m=>?_,(S.rg.kept C.o).r⟩<;>obtain⟨X,c,f,N,a,rfl⟩:=o b m;simpa [eM] using S.p X c;exact S.x X c
def St.step(S:St n bs){b t:Nat}{B T:GB}(c:dv bs b t B T):St n (cf bs b t B T):=by
 have w:∀a∈cf bs b t B T,∃(i:Nat) (X:GB),bs[i]?=Z X/\a=dI bs b t B T i X:=λa m=>by have⟨i,G⟩:=iF m;have⟨X,f,s⟩:=fT G;exact⟨i,X,f,s⟩
 refine⟨c.eb S.E,by rw[c.lists];exact S.l,λa m=>?_,λa m x f=>?_,(c.aF S.rg.al).r⟩<;>obtain⟨i,X,q,rfl⟩:=w a m;have m:=S.p X (cK q);by_cases o:i=t;unfold dI;rw[bH o];simp[tF];rw[mf o];split;simpa [Dt] using m;exact m
 unfold dI at f;split at f;simp[tF] at f;split at f;rcases jL.1 f with h|h;exact S.x B (cK c.hb) x h;exact S.x T (cK c.ht) x h;refine S.x X (cK q) x ?_;split at f<;>exact f
def CU.st(s:CU bs g)(S:St n bs):St n g:=by
 induction s with
 |refl=>exact S
 |step _ c f=>
  rw[c.kept f.E];exact(f.step c).kept (c.left f.E)
def St.Jg(S:St n bs):∀b∈bs,Hb b:=λb c=>by have⟨i,m⟩:=iF c;refine⟨aw (S.p b c),aw (S.ll c),λp f=>?_,λx o=>aw ((S.x b c x o).2),aw (S.E.two c)⟩;rw[S.E.rows i b m p f];have:=qP bs i;have:=S.E.n50;omega
def St.inJ(S:St n bs){b t:Nat}{B T:GB}(c:dv bs b t B T):∀x∈iW bs b t T,Hb x:=λx m=>by
 have⟨i,f⟩:=iF m;by_cases e:i=t;subst e;rw[Ux c] at f;cases f;have o:=cK c.ht;exact⟨ag,by have:=S.ll o;simp;omega,ag,λx m=>aw ((S.x T o x m).2),ag⟩
 rw[HJ c S.E e] at f;exact(S.step c).Jg x (cK f)
def UU{p:Nat}(h:p<=n):ve n (j9 p)/\(j9 p).Nodup:=by
 refine⟨λr f=>?_,?_⟩;obtain⟨k,c,rfl⟩:=iT.1 f;have:=QM.1 c;omega
 exact gw.2 (ym.imp λh e=>h J)
def aaE:∀(es:List Int){l:List Int},ve n l->ve n es->ve n (dp l es)
 |[],_,h,_=>h
 |e::es,l,h,f=>aaE es (l:=dN l e) (λr c=>by unfold dN at c;split at c;exact h r c;rcases jL.1 c with c|c;exact h r c;exact f r (by simp at c;simp[c])) λr c=>f r (vU _ c)
def Ai(h:ve n l/\l.Nodup)(c:ve n es):(ve n (dp l es)/\(dp l es).Nodup)/\Y (dp l es)<=n:=by have a:=aaE es h.1 c;have b:=aaF es h.2;exact⟨⟨a,b⟩,LU b a⟩
def pV{c:Type}{f:c->List Int}{xs:List c}(h:∀x∈xs,ve n (f x)):ve n (xs.flatMap f):=λr c=>by have⟨x,m,c⟩:=a8.1 c;exact h x m r c
def St.metIn(S:St n bs){p:Nat}(I:p<=n)(O:n<1000):aeD p bs:=by
 have F:BsF bs:=λb c x s=>(S.x b c x s).1;have w:∀b∈bs,ve n (QD b):=λb c=>Xg (S.r b c);have o:∀b∈bs,∀q∈b.aP,ve n (qk q.row):=λb c q m=>((gK.1 (S.r b c)).1 q m).snd;have P:=UU I;have G:=Ai P (pV w);have N:=S.E.n50;refine⟨J,J,S.p,λb c=>S.ll c,λb c x s=>(S.x b c x s).2.1,λb c q m=>by have:=(S.Jg b c).lr q m;have⟨i,M⟩:=iF c;rw[S.E.rows i b M q m];have:=qP bs i;omega,λj=>?_,λi b j c=>?_,?_⟩
 rw[Cb λb c=>F b (Xp c)];have:=(Ai P (pV (xs:=bs.take j) λb c=>w b (Xp c))).2;omega
 rw[Rj,Gq,Cb F];have w:=Ai G.1 (pV (f:=ev3) (xs:=bs.take i) λb c=>pV (o b (Xp c)));have:=(Ai w.1 (pV (f:=λq:GP=>qk q.row) (xs:=b.aP.take j) λq m=>o b (cK c) q (Xp m))).2;omega
 unfold Gp;rw[Gq,Cb F];have:=(Ai G.1 (pV (f:=ev3) (xs:=bs) λb c=>pV (o b c))).2;omega
end
def adH{n p:Nat}{a:Nat×List GB}(S:St n bs)(T:xh p bs a)(s:CU (bu bs (dU bs)) t)(f:∀x,wP t x):iQ p t=a:=by obtain⟨G,q,c,m,rfl⟩:=T;have m:=s.st (S.kept S.E.Gu);have e:=abz S.E s f q c;have o:=m.kept m.E.Gu;have F:BsF (bu t (dU t)):=λb w x I=>(o.x b w x I).1;unfold iQ tM;rw[aaH F,e]
end Go.Proofs.YtdhnndleffachaaGreatDoor
