/- Parts of the proof. -/
import Derived.Test.YtdhnndleffachaaGreatDoorP03
import Derived.Test.YtdhnndleffachaaGreatDoorP00
import Derived.KernelRfl
import Derived.Test.YtdhnndleffachaaGreatDoorP02
open Go renaming Value->aa
open Int renaming toNat->u1
open Nat renaming add_comm->ik,le_succ->hQ,lt_succ_of_lt->sW,mul_one->og,one_mul->Ox,strongRecOn->p7,sub_self->r6,succ_pos->aai
open Ne renaming symm->a7
open Option renaming some->Z,none->K
open Bool renaming false->b9,true->cd
open List renaming length->Y,drop_append->nV,drop_drop->pa,drop_eq_getElem_cons->fj,drop_zero->qA,flatMap_def->QT,getElem?_eq_none_iff->ri,getElem?_reverse->ur,getElem_inj->ib,length_cons->kb,map_append->aW,mem_reverse->jT,mem_singleton->br,mergeSort_perm->HE,pairwise_map->gw,range->aA,replicate->an,replicate_succ->p9,set_append->Sy,take_add->B7
open Go.Value renaming slice->c6,bool->dd,pointer->dB,int->dC,string->eT,agg->eU,bool->eX,int->aL,pointer->il,slice->bo
open Go.IntKind renaming i64->ef,i64->c9
open Or renaming inl->fc,inr->ft
set_option linter.all false
set_option maxHeartbeats 1000000
namespace Go.Proofs.YtdhnndleffachaaGreatDoor
open Go.AI
variable{B:SV}{d:List GB}{h:aB}
def ahg{b:Nat}{x:GB}(h:d[b]?=Z x):Dfs.row (gT d) b=x.to.map u1:=by unfold Dfs.row gT;rw[gu,h];rfl
def xS(E:kg d):∀b t,t∈Dfs.row (gT d) b->t<Y d:=by intro b t w;unfold Dfs.row gT at w;rw[gu] at w;rcases t:d[b]? with _|x;rw[t] at w;simp at w;rw[t] at w;simp at w;obtain⟨a,b,rfl⟩:=w;have:=E.to x (cK t) a b;omega
def Xk{tos:List (List Nat)}{k:Nat}{a:List Nat}{j x:Nat}(w:a[j]?=Z x)(s:Dfs.DS):Dfs.foldM tos k (a.reverse.take (Y a-j)) s=(let b:=Dfs.foldM tos k (a.reverse.take (Y a-(j+1))) s;if b.seen[x]?=Z cd then b else Dfs.visitM tos k x b):=by
 have F:=(cR.mp w).1;have e:Y a-j=(Y a-(j+1))+1:=J
 have D:a.reverse[Y a-(j+1)]?=Z x:=by rw[ur J];rw[<-w];congr 1;omega
 rw[e,mw,D];unfold Dfs.foldM;rw[List.foldl_append];rfl
section
variable{h0:aB}{d:List GB}{B:SV}
def ZC(cS:cy h0)(H:mm h0 B d)(x:kg d){n S D N V F:Nat}{X:ByteArray}{r A:Int}(hn:Y d=n):∀(k b:Nat)(h:aB)(L:SV)(s:Dfs.DS),JB h0 h n S D N V F X r A B L s->b<n->¬s.seen[b]?=Z cd->Dfs.de s<=k->aY FF 147 [dC ef b,dB (Z ⟨S,0,K⟩),dB (Z ⟨N,0,K⟩),dB (Z ⟨V,0,K⟩),dB (Z ⟨F,0,K⟩)] h (λ_ T=>aeM h0 h n S D N V F X r A B L (Dfs.visitM (gT d) k b s) T):=by
 intro k;induction k with
 |zero=>
  intro b h L s w p z I;have:=Dfs.oJ (s:=s) (b:=b) (by rw[w.len];exact p) z;omega
 |succ k ih=>
  intro b h L s w p z I;have g:=x.len;have W:=ae.len H;have e:=Dfs.oJ (s:=s) (b:=b) (by rw[w.len];exact p) z;have⟨G,I⟩:=aR d b;have hm:=cK I;have⟨g,M⟩:=w.hS;have⟨P,U⟩:=w.HG;have⟨a,O⟩:=w.hF;have⟨v,C,i,m,t,o,z⟩:=w.ne;have C:=w.g.ok;have o:=w.bU;have q:b+1<=Y s.seen:=by rw[w.len];omega
  refine aY.of Kl ?_;rw[ahQ];rw[show Sk=_ from Q];unfold Sk;simp[M,p,U,q];refine aN.cut (λj=>JB h0 j n S D N V F X r A B L ⟨s.seen.set b cd,s.left⟩/\az (· =D) h j) ?_ ?_;have z:az (· =D) h (put h D b (tG.flat s.seen) [dd cd] 0):=aX C U;have e:∀y (q:qo),h.tr.get y=Z q->y≠D->(put h D b (tG.flat s.seen) [dd cd] 0).tr.get y=Z q:=λy q o c=>z.get C o c;have⟨l,f⟩:=w.hV;have⟨c,E⟩:=w.hL;refine⟨⟨w.g.put ⟨_,U⟩ (fc w.n1),w.n1,w.n2,⟨g,e _ _ M v⟩,⟨h.clock,by rw[bc,Vw _ _ _ J]⟩,⟨a,e _ _ O (a7 i)⟩,⟨l,e _ _ f (a7 m)⟩,⟨c,e _ _ E (a7 t)⟩,w.acc.grow C z (λy o e=>(w.vP y o).2.1 e),by simp[w.len],?_,w.ne,w.vP⟩,z⟩;have:=w.ll;show Y s.left+Dfs.de ⟨s.seen.set b cd,s.left⟩<=n;omega
  rintro j⟨M,g1⟩;obtain⟨l,z,c,u,_,_,⟨P,v,c,rfl,f,v,C⟩,_,O⟩:=ae.later cS H I;have g:=O j M.g 5 1 ai;simp[-ay] at g;have⟨a,i⟩:=M.hF;simp only[aC] at i;have E:=ae.len C;unfold alJ;rw[hn] at W;simp only[SV.AK,u,W] at i;simp[aD i,p,g,-ay];refine bm.call (V:=λv' T=>v'=.func (.func 210) #[] #[dB (Z ⟨j.ax,0,K⟩)]/\T=aM j [c.v] 0) (ak (Nv j c)) ?_;rintro _ a⟨rfl,m⟩;have E:az aV j a:=by rw[m];exact aZ M.g.ok _ _
  have P:a.tr.get j.ax=Z (.ch [c.v] b9 0 0):=by rw[m];exact bY _ _ _
  have g:a.ax=j.ax+1:=by rw[m];rfl
  clear m;simp;have f:=M.g.trans E;have t:=f.ok;have u:=M.bU;have g:h.ax<=j.ax:=g1.ax;have U:=t.bU P;generalize hse:(⟨s.seen.set b cd,s.left⟩:Dfs.DS)=s1 at*;have azT:Dfs.de s1<=k:=J
  have as6:Y s1.seen=n:=M.len;have⟨H,hns⟩:∃H,H=G.to.map u1:=⟨_,Q⟩;have aAu:Y H=Y G.to:=by rw[hns];simp
  have m:∀(i:Nat),aeF S D N V F L i->i<a.ax:=λi O=>by have:=u i O;have:=E.ax;omega
  refine aN.RO (g:=210) (first:= #[]) (caps:= #[dB (Z ⟨j.ax,0,K⟩)]) ag ?_;have⟨e,W⟩:∃e,e=((((((((((((((((Tr.nil.set 0 (aL c9 ↑b)).set 1 (il (Z { block:=S,off:=0 }))).set 2 (il (Z { block:=N,off:=0 }))).set 3 (il (Z { block:=V,off:=0 }))).set 4 (il (Z { block:=F,off:=0 }))).set 8 (bo (Z { block:=D,off:=0 }) n n)).set 9 (aL c9 ↑b)).set 10 (il (Z { block:=D,off:=b }))).set 11 (il (Z { block:=N,off:=3 }))).set 12 (bo (Z { block:=l,off:=z }) n B.c)).set 13 (aL c9 ↑b)).set 14 (il (Z { block:=l,off:=z+b*6 }))).set 15 (il (Z { block:=l,off:=z+b*6+2 }))).set 16 (il (Z { block:=l,off:=z+b*6+2+3 }))).set 17 (bo c.a c.l c.c)).set 18 (Value.func (Fn.func 210) #[] #[il (Z { block:=j.ax,off:=0 })])):=⟨_,Q⟩;rw[<-W];have e1:bX e 1=dB (Z ⟨S,0,K⟩):=by rw[W];simp
  have e3:bX e 3=dB (Z ⟨V,0,K⟩):=by rw[W];simp
  have e0:bX e 0=dC ef b:=by rw[W];simp
  have e4:bX e 4=dB (Z ⟨F,0,K⟩):=by rw[W];simp
  clear W;have m:az aV a (a.new (.loop e [19,20] Cm xT .ready)):=by refine⟨hQ _,fE _,λb p _=>KO _ p,⟨λb q p=>?_,λb O l i s p=>?_⟩⟩;simp only[aB.new,Tr.bS] at p⊢;by_cases e:b=a.ax;omega;rw[bM e] at p;exact sW (t.wf b q p);simp only[aB.new,Tr.bS] at p⊢;by_cases e:b=a.ax;rw[bH e] at p;cases p;rw[bM e] at p;exact t.st b O l i s p
  have i:(a.new (.loop e [19,20] Cm xT .ready)).tr.get a.ax=Z (.loop e [19,20] Cm xT .ready):=by simp[aB.new,Tr.bS]
  have W:(a.new (.loop e [19,20] Cm xT .ready)).ax=a.ax+1:=Q;generalize a.new (.loop e [19,20] Cm xT .ready)=h3 at*;have z:az aV j h3:=E.trans m;have q:JB h0 h3 n S D N V F X r A B L s1:=M.yZ z aj (M.g.trans z);have l:=m.get t P
  let E:Nat->aB->Prop:=λg t=>∃v:SV,JB h0 t n S D N V F X r A B v (Dfs.foldM (gT d) k (H.reverse.take (Y H-g)) s1)/\(∀y,bD v.v y->bD L.v y\/h3.ax<=y)/\az (λy=>PW D F L y\/y=a.ax) h3 t/\t.tr.get a.ax=Z (.loop e [19,20] Cm xT .ready)/\t.tr.get j.ax=Z (.ch [c.v] b9 0 0)
  have W:∀v:SV,(∀y,bD v.v y->bD L.v y\/h3.ax<=y)->∀y,aeF S D N V F v y->y≠a.ax/\y≠j.ax:=by
   intro v O y o;have U:∀y,aeF S D N V F L y->y<j.ax:=u;rcases o with h|h|h|h|h|h
   have:=U y (fc h);omega;have:=U y (ft (fc h));omega;have:=U y (ft (ft (fc h)));omega;have:=U y (ft (ft (ft (fc h))));omega;have:=U y (ft (ft (ft (ft (fc h)))));omega
   rcases O y h with h|h;have:=U y (ft (ft (ft (ft (ft h)))));omega;omega
  have u:=Kb (h0:=h0) (h:=h3) cS (b:=j.ax) C (aw (x.two G hm)) (y:=.func (.yield a.ax) #[] #[]) E (λg t ⟨v,p,_,_,_,E⟩=>⟨p.g,0,E⟩) ?_ ⟨L,by rw[<-aAu];simpa [Dfs.foldM] using q,λy o=>fc o,.refl q.g.ok,i,l⟩
  .refine(by simpa using u:aY FF 210 _ _ _).mono ?_;rintro _ q⟨v,i,U,l,m,P⟩;refine zI.ready m ?_;refine Eq.mp (by rw[YM];rfl) (?_:aN FF _ _ _ _);have P:az (· =a.ax) q (Iw q a.ax):=kT i.g.ok a.ax;have m:h0.ax<=a.ax:=f.ax;have C:=i.yZ P (λy o e=>(W v U y o).1 e) (i.g.trans' P aj (λy o e=>J));have M:Dfs.row (gT d) b=H:=by rw[ahg I,hns]
   have m:H.reverse.take (Y H-0)=H.reverse:=nz ag;rw[m] at C;have i:=Dfs.vQ (Dfs.xU (xS x) k) H.reverse s1 (by rw[as6,hn]) (λu E=>xS x b u (by rw[M];exact jT.1 E));have E:s1.left=s.left:=by rw[<-hse]
   have m:=w.ll;rw[E] at i;refine aku J C J e0 e4 ?_;rintro i T⟨m,E,i,u⟩;simp;have w:Dfs.visitM (gT d) (k+1) b s=⟨(Dfs.foldM (gT d) k H.reverse s1).seen,(Dfs.foldM (gT d) k H.reverse s1).left++[b]⟩:=by rw[Dfs.gZ,M,hse]
   rw[w];have M:q.ax<=(Iw q a.ax).ax:=P.ax;refine⟨m,E,?_,λy o=>?_⟩
   .have w:az (PW D F L) h j:=g1.cX (λ_ _ e=>fc e);have M:az (PW D F L) h h3:=w.trans z.cr;have z:az (PW D F L) h q:=M.trans' l aj (λy o h=>h.elim id (λe=>J));have I:az (PW D F L) h (Iw q a.ax):=z.trans' P aj (λy o e=>J);refine I.trans' i aj (λy o h=>?_);rcases h with h|h|h
    exact fc h;exact ft (fc h);rcases U y h with h|h;exact ft (ft h);omega
   rcases u y o with h|h;rcases U y h with h|h;exact fc h;exact ft J;exact ft (aw l.ax)
  .intro g y t o ⟨v,p,O,q,b,hbh⟩;have m:=p.g.ok;have U:=W v O;have w:=q.ax;have t:(H[g]?)=Z y.toNat:=by rw[hns,gu,o];rfl
   have⟨l,z⟩:=x.to G hm y (cK o);obtain⟨M,rfl⟩:∃M:Nat,y=M:=⟨y.toNat,J⟩;rw[Xn] at t;have I:M<n:=J
   have s:=Xk (tos:=gT d) (k:=k) t s1;generalize z:Dfs.foldM (gT d) k (H.reverse.take (Y H-(g+1))) s1=sj at*;have G:Y sj.seen=n:=p.len;have hfj:Dfs.de sj<=k:=by rw[<-z];exact wV (Dfs.xB (Dfs.Au (gT d) k) _ _) azT
   have⟨x,w⟩:=aR sj.seen M
   let t:aB->Prop:=λT=>∃G:SV,JB h0 T n S D N V F X r A B G (Dfs.foldM (gT d) k (H.reverse.take (Y H-g)) s1)/\(∀z,bD G.v z->bD L.v z\/h3.ax<=z)/\T.tr.get j.ax=Z (.ch [c.v] b9 0 0)
   refine(Zc (S:=PW D F v) (Kp:=t) m (l:=a.ax) (λh=>?_) b ?_ ?_).mono ?_;rcases h with h|h|h;exact(U D (ft (fc Q))).1 h.symm;exact(U F (ft (ft (ft (ft (fc Q)))))).1 h.symm;exact(U _ (ft (ft (ft (ft (ft h)))))).1 rfl
   .unfold Cm;simp;refine⟨.refl m,λl b=>?_⟩;have L:h0.ax<=a.ax:=f.ax;have C:=p.yZ b (λy o e=>(U y o).1 e) (p.g.trans' b aj (λy o e=>J));have P:=b.get m hbh (λe=>J);have⟨j,H⟩:=C.hS;obtain⟨t,t⟩:=C.HG;have⟨p,j⟩:=C.hV;have p:=ag8 t w;unfold xT;cases x
    .simp[e1,e3,aD H,aD j,I,p,-ay];refine bm.fB (V:=λ_ T=>aeM h0 l n S D N V F X r A B v (Dfs.visitM (gT d) k M sj) T) ?_ ?_
     .have g:dQ FF (.func (.func 147) #[] #[dB (Z ⟨S,0,K⟩),dB (Z ⟨N,0,K⟩),dB (Z ⟨V,0,K⟩),dB (Z ⟨F,0,K⟩)]) [dC ef M] l (λ_ T=>aeM h0 l n S D N V F X r A B v (Dfs.visitM (gT d) k M sj) T):=
       dQ.func (ak (ih M l v sj C I (by rw[w];simp) hfj))
      simpa using g
     rintro v' t⟨G,E,i,u⟩;simp;have j:=b.ax;refine⟨i,G,?_,λz n=>?_,i.get C.g.ok P (λh=>?_)⟩
     rw[s];simpa [w] using E;rcases u z n with h|h;exact O z h;exact ft J;rcases h with h|h|h;exact(U D (ft (fc Q))).2 h.symm;exact(U F (ft (ft (ft (ft (fc Q)))))).2 h.symm;exact(U _ (ft (ft (ft (ft (ft h)))))).2 rfl
    simp[e1,aD H,I,p,-ay];refine⟨.refl C.g.ok,v,?_,O,P⟩;rw[s];simpa [w] using C
   rintro l t⟨G,E,u,N⟩ j i;have L:h0.ax<=a.ax:=f.ax;exact⟨G,E.yZ i (λy o e=>(W G u y o).1 e) (E.g.trans' i aj (λy o e=>J)),u,i.get j N (λe=>J)⟩
   rintro v' l⟨rfl,b,e,G,E,u,N⟩;refine⟨Q,G,E,u,?_,e,N⟩;refine q.trans' b aj (λz n h=>?_);rcases h with h|h;rcases h with h|h|h;exact fc (fc h);exact fc (ft (fc h));rcases O z h with h|h;exact fc (ft (ft h));omega;exact ft h
end
def nj{W:Nat}{a:List Int}{o s:Nat}{b:Bool}(w:h.tr.get W=Z (.ch (encI.flat a) b o s)){k:Nat}{x:Int}(b:a[k]?=Z x):cC h W k 1=Z [dC ef x]:=by have D:=(cR.mp b).1;rw[fm w (by rw[encI.eN];show k+1<=Y a*1;omega)];have:=encI.rm a k 0 1 x b ai;simp only[Jk] at this;rw[show k=k*encI.sz from(og k).symm,this];rfl
def tA(a:List Int)(i:Nat)(x:Int)(h:i<Y a):bg (encI.flat a) i [dC ef x]=encI.flat (a.set i x):=by have:=encI.tz a i x h;simpa using this
def wg(d:List GB):List Int:=(Dfs.uD (gT d) (Y d)).map λx:Nat=>(x:Int)
def EF(n:Nat):Dfs.de ⟨an n b9,[]⟩=n:=by
 unfold Dfs.de;dsimp only;induction n with
 |zero=>rfl
 |succ n a=>rw[p9,List.countP_cons,a];rfl
def Px(D:cy h){name:ByteArray}{p r:Int}(F:mm h B d)(E:kg d)(G:0<Y d):aY FF 87 [eU ⟨aC name p r B⟩] h (λv b=>az aV h b/\∃L:SV,v=L.v/\bx encI h.ax b L.v (wg d)):=by
 have H:=ae.len F;have a:=E.len;have a:roomy (Y d)=cd:=by simp[roomy];omega
 have N:roomy (Y d*1)=cd:=by simp[roomy];omega
 have N:jG [eX b9] (Y d)=tG.flat (an (Y d) b9):=by
  have:∀n,jG [eX b9] n=tG.flat (an n b9):=by
   intro n;induction n with
   |zero=>rfl
   |succ n I=>rw[p9,ly.iJ,<-I];rfl
  exact this _
 refine aY.of Qj ?_;unfold FB;simp[aC,H,a,N];refine bm.cut (λa=>JB h a (Y d) (h.ax+3) (h.ax+2) h.ax (h.ax+4) (h.ax+1) name p r B cU ⟨an (Y d) b9,[]⟩) ?_ ?_
 .refine⟨?_,J,J,⟨h.clock,?_⟩,⟨0,?_⟩,⟨0,?_⟩,⟨h.clock+1,?_⟩,⟨0,?_⟩,fc ⟨Q,Q⟩,ag,by simp[EF],J,λe ⟨_,_,_,e⟩=>by cases e⟩
  .repeat (first|exact .refl D|apply az.new|refine az.put ?_ (by simp[DJ]) (fc J))
  simp[DJ];simp[DJ];simp[DJ,aC,H];simp[DJ];simp[DJ,cU]
 intro a w;obtain⟨H,H⟩:=w.hV;have e:=(w.g.ok.bU H).lt;refine bm.fB (V:=λ_ b=>aeM h a (Y d) (h.ax+3) (h.ax+2) h.ax (h.ax+4) (h.ax+1) name p r B cU (Dfs.visitM (gT d) (Y d) 0 ⟨an (Y d) b9,[]⟩) b) ?_ ?_
 have b:=ZC D F E rfl (Y d) 0 a cU _ w G (by simp[TV]) (by rw[EF];exact fE _);have O:dQ FF (.func (.func 147) #[] #[dB (Z ⟨h.ax+3,0,K⟩),dB (Z ⟨h.ax,0,K⟩),dB (Z ⟨h.ax+4,0,K⟩),dB (Z ⟨h.ax+1,0,K⟩)]) [dC ef 0] a _:=dQ.func (ak b);simpa using O
 rintro v a⟨L,a,G,_⟩;obtain⟨G,G⟩:=a.hL;simp at G;simp[G];exact⟨a.g,L,⟨Q,Q,Q⟩,a.acc⟩
def axr(k k:Nat)(h:aB)(a:List Int)(m:Nat)(e:Env)(c:aB):Prop:=
 ∃(i:Nat) (b:List Int),m=Y a-i/\i<=Y a/\bX e 0=c6 (Z ⟨k,0,K⟩) (Y a) (Y a)/\bz e 2 i/\bz e 3 ((Y a:Int)-1-i)/\az (· =k) h c/\(∃s,c.tr.get k=Z (.ch (encI.flat b) b9 1 s))/\Y b=Y a/\∀k,k<Y a->b[k]?=if k<i\/Y a<=k+i then a[Y a-1-k]? else a[k]?
def RH(A:cy h){P:Nat}{L:SV}{p:List Int}(a:bx encI P h L.v p)(b:Y p<1000000):aY FF 199 [L.v] h (λ_ i=>az (bD L.v) h i/\bx encI P i L.v p.reverse):=by
 have w:=bZ ((Y p:Int)-1) J J;refine aY.of xY ?_;unfold nq;rcases a with⟨rfl,e⟩|⟨b,m,e,s,t,U⟩;have n:c9.wrap (0-1)= -1:=bZ _ J J;have W:c9.wrap (-1)= -1:=bZ _ J J;rw[e];simp[n,W];rw[CP];unfold ir;simp;exact⟨.refl A,fc ⟨Q,Q⟩⟩
 .rw[e];simp[w];refine aN.loop (axr P b h p) ?_ (n:=Y p) ⟨0,p,Q,J,ag,ag,ag,.refl A,⟨m,s⟩,Q,λf H=>by rw[bM J]⟩;rintro m T O⟨i,k,rfl,X,M,W,g,F,⟨N,G⟩,l,D⟩;unfold ir;by_cases a:(i:Int)<(Y p:Int)-1-i
  .have⟨j,d⟩:∃j:Nat,(j:Int)=(Y p:Int)-1-i:=⟨Y p-1-i,J⟩;have u:j<Y p:=J
   have v:i<Y p:=J
   rw[<-d] at g;have A:i<j:=J
   have⟨x,d⟩:=aR k i;have⟨y,E⟩:=aR k j;have q:=nj G d;have L:=nj G E;have m:=bZ ((i:Int)+1) J J;have S:=bZ ((j:Int)-1) J J;have r:i+1<=Y k:=J
   have V:j+1<=Y k:=J
   have z:bg (encI.flat k) i [dC ef y]=encI.flat (k.set i y):=tA _ _ _ J;have C:bg (encI.flat (k.set i y)) j [dC ef x]=encI.flat ((k.set i y).set j x):=tA _ _ _ (by simp;omega);simp[M,W,g,A,u,v,aK,q,L,G,r,V,m,S,z,-ay];have P:(put (tick O) b i (encI.flat k) [dC ef y] 1).tr.get b=Z (.ch (encI.flat (k.set i y)) b9 1 (tick O).clock):=by rw[bc,z]
   have o:az (· =b) h (put (tick O) b i (encI.flat k) [dC ef y] 1):=F.tick.trans (aX F.tick.ok G);refine⟨Y p-(i+1),J,i+1,(k.set i y).set j x,Q,J,av M,ag,by simp;omega,o.trans (aX o.ok P),⟨_,by rw[bc,C]⟩,av l,λf H=>?_⟩;rw[fq,fq];have I:=D i v;have X:=D j u;rw[bM J] at I X;by_cases s:j=f
   subst s;rw[bH Q,bH (by simp;omega),bH J,<-d,I];congr 1;omega;rw[bM s];by_cases T:i=f;subst T;rw[bH Q,bH J,bH J,<-E,X];congr 1;omega;rw[bM T,D f H];by_cases c:f<i\/Y p<=f+i;rw[bH c,bH J];rw[bM c,bM J]
  .simp[W,g,a];have e:k=p.reverse:=by refine Bc λf=>?_;by_cases H:f<Y p;rw[ur H,D f H];split;rfl;congr 1;omega;rw[xE J,xE (by simp;omega)]
   refine⟨F.cX (λx _ e=>e▸⟨_,_,_,Q⟩),ft ⟨b,N,ag,by rw[<-e];exact G,ak t,U⟩⟩
def EX(F:cy h){name:ByteArray}{p r:Int}(G:mm h B d)(E:kg d)(e:0<Y d):aY FF 138 [eU ⟨aC name p r B⟩] h (λv a=>az aV h a/\∃L:SV,v=L.v/\bx encI h.ax a L.v (wg d).reverse):=by
 refine aY.of Jb ?_;unfold Aw;simp[aC];have w:=aZ F (aC name p r B) 0;refine bm.call (V:=λv a=>az aV (aM h (aC name p r B) 0) a/\∃L:SV,v=L.v/\bx encI (h.ax+1) a L.v (wg d)) (by simpa [aC] using Px w.ok (name:=name) (p:=p) (r:=r) (G.mono F w) E e) ?_;rintro _ F⟨P,L,rfl,G⟩;have D:=w.trans P;have H:Y (wg d)<1000000:=by
  have P:=Dfs.JK e (xS E);have:Y (Dfs.uD (gT d) (Y d))<=Y d:=by have:=YS P.1 (l₂:=aA (Y d)) (λx w=>QM.2 (P.2.1 x w));simpa using this
  have:=E.len;unfold wg;simp;omega
 simp;refine bm.call (V:=λ_ a=>az (bD L.v) F a/\bx encI (h.ax+1) a L.v (wg d).reverse) (ak (RH D.ok G H)) ?_;rintro _ O⟨I,N⟩;simp;refine⟨D.trans' I aj (λx w e=>aw (G.of e)),L,⟨Q,Q,Q⟩,?_⟩;rcases N with a|⟨b,s,e,L,w,N⟩;exact fc a;exact ft ⟨b,s,e,L,w,J⟩
end Go.Proofs.YtdhnndleffachaaGreatDoor
namespace Go.AI.Dom
variable{A B u:Nat->Nat}{b i k x y:Nat}
inductive eO(u:Nat->Nat):Nat->Nat->Prop
 |refl (x:Nat):eO u x x
 |step {x y:Nat} :eO u (u x) y->eO u x y
structure Down(u:Nat->Nat):Prop where
 zero:u 0=0
 lt:∀i,0<i->u i<i
def eO.trans{x y z:Nat}(h:eO u x y)(k:eO u y z):eO u x z:=by
 induction h with
 |refl=>exact k
 |step _ a=>exact .step (a k)
def eO.le(d:Down u)(h:eO u x y):y<=x:=by
 induction h with
 |refl=>exact fE _
 | @step x y _ a=>
  rcases La x with rfl|w;rw[d.zero] at a;exact a;have:=d.lt x w;omega
def eO.up(h:eO u x y)(a:x≠y):eO u (u x) y:=by
 cases h with
 |refl=>exact absurd rfl a
 |step h=>exact h
def eO.local{u v:Nat->Nat}(d:Down u)(e:∀i,i<b->u i=v i)(h:eO u x y)(a:x<b):eO v x y:=by
 induction h with
 |refl=>exact .refl _
 | @step x y _ w=>
  refine .step ?_;rw[<-e x a];refine w ?_;rcases La x with rfl|h;rw[d.zero];exact a;have:=d.lt x h;omega
def mix(A B:Nat->Nat)(b i:Nat):Nat:=if i<b then B i else A i
def agy(h:i<b):mix A B b i=B i:=bH h
def Yz(h:¬i<b):mix A B b i=A i:=bM h
def Down.mix{A B:Nat->Nat}(a:Down A)(b:Down B)(k:Nat):Down (mix A B k):=by refine⟨?_,λi w=>?_⟩;unfold Dom.mix;split;exact b.zero;exact a.zero;unfold Dom.mix;split;exact b.lt i w;exact a.lt i w
def xn(a:Down A)(b:Down B)(D:x<k):eO (mix A B k) x y↔eO B x y:=
 ⟨λh=>h.local (a.mix b k) (λi w=>agy w) D,λh=>h.local b (λi w=>(agy w).symm) D⟩
def TL(N:Down A)(w:0<b):∀w,∃q,q<b/\eO A w q/\∀B,eO (mix A B b) w q/\∀x,x<b->eO (mix A B b) w x->eO (mix A B b) q x:=by
 intro w;induction w using p7 with
 |ind w F=>
  by_cases h:w<b;exact⟨w,h,.refl _,λB=>⟨.refl _,λ_ _ h=>h⟩⟩
  .have D:0<w:=J
   have⟨q,H,G,a⟩:=F (A w) (N.lt w D);refine⟨q,H,.step G,λB=>?_⟩;have⟨H,I⟩:=a B;refine⟨.step (by rw[Yz h];exact H),λx N a=>?_⟩;have:=a.up J;rw[Yz h] at this;exact I x N this
section
variable(m:Nat)(a:Nat->List Nat)
def Round(A B:Nat->Nat):Prop:=∀b,0<b->b<m->(∀w∈a b,eO (mix A B b) w (B b))/\∀z,(∀w∈a b,eO (mix A B b) w z)->eO (mix A B b) (B b) z
def aeI(B:Nat->Nat):Prop:=∀b,0<b->b<m->(∀w∈a b,w<b->eO B w (B b))/\∀z,(∀w∈a b,w<b->eO B w z)->eO B (B b) z
def yH(A B:Nat->Nat):Prop:=∀p,0<p->p<m->eO B (A p) (B p)
end
section
variable{m:Nat}{c:Nat->List Nat}{A B C:Nat->Nat}
def yH.mono(a:Down A)(H:Down B)(W:∀p,0<p->p<k->eO B (A p) (B p)):∀w,w<k->∀x,eO B w x->eO A w x:=by
 intro w;induction w using p7 with
 |ind w G=>
  intro F x D;by_cases e:w=x;subst e;exact .refl _;rcases La w with rfl|p;have:=D.le H;omega;have H:=D.up e;have I:=(W w p F).trans H;exact .step (G (A w) (a.lt w p) (aw (a.lt w p)) x I)
def yH.below(d:Down A)(N:Down B)(W:∀p,0<p->p<k->eO B (A p) (B p))(q:0<b):∀p,p<k->∃q,q<b/\eO A p q/\eO (mix A B b) p q/\∀x,x<b->eO B p x->eO B q x:=by
 intro p;induction p using p7 with
 |ind p D=>
  intro w;by_cases h:p<b;exact⟨p,h,.refl _,.refl _,λ_ _ h=>h⟩
  .have a:0<p:=J
   have F:=d.lt p a;have⟨q,d,G,c,H⟩:=D (A p) F J;refine⟨q,d,.step G,.step (by rw[Yz h];exact c),λx c I=>?_⟩;exact H x c ((W p a w).trans (I.up J))
def yH.over(D:Down B)(W:∀p,0<p->p<k->eO C (B p) (C p)):∀w,w<k->∀u,eO B w u->∀x,x<=u->eO C w x->eO C u x:=by
 intro w;induction w using p7 with
 |ind w H=>
  intro G u F x b a;by_cases e:w=u;subst e;exact a
  .have p:=F.le D;have p:0<w:=J
   have I:=D.lt w p;exact H (B w) I J u (F.up e) x b ((W w p G).trans (a.up J))
def Mx(I:Down A)(D:Down B)(H:Down C)(l:∀b,0<b->b<m->∃w∈c b,w<b)(O:∀b w,w∈c b->w<m)(f:aeI m c B\/(Round m c A B/\yH m A B))(N:Round m c B C):yH m B C:=by
 intro p;induction p using p7 with
 |ind p h=>
  intro d F;have W:∀q,0<q->q<p->eO C (B q) (C q):=λq i e=>h q e i J;have mono:=yH.mono D H W;have⟨e,_⟩:=N p d F;have i:=H.lt p d;have N:=D.lt p d;have n:eO B (B p) (C p):=by rcases f with h|⟨h,k⟩;refine(h p d F).2 _ λw G a=>?_;exact mono w a _ ((xn D H a).1 (e w G));refine(xn I D N).1 ((h p d F).2 _ λw G=>?_);by_cases a:w<p;exact(xn I D a).2 (mono w a _ ((xn D H a).1 (e w G)));have⟨q,g,o,j⟩:=TL D d w;have N:=(j C).2 _ i (e w G);have j:=mono q g _ ((xn D H g).1 N);have N:=o.trans j;have⟨r,j,_,g,q⟩:=yH.below I D k d w (O p w G);exact g.trans ((xn I D j).2 (q _ i N))
  have N:=n.le D;have⟨w,G,a⟩:=l p d F;have O:eO B w (B p):=by rcases f with h|⟨h,_⟩;exact(h p d F).1 w G a;exact(xn I D a).1 ((h p d F).1 w G)
  exact yH.over D W w a _ O _ N ((xn D H a).1 (e w G))
def yH.le(a:Down B)(w:Down A)(W:yH m A B):∀p,p<m->B p<=A p:=by intro p D;rcases La p with rfl|b;rw[a.zero,w.zero];exact fE _;exact(W p b D).le a
end
def total(u:Nat->Nat):Nat->Nat
 |0=>0
 |n+1=>total u n+u n
def VE{u v:Nat->Nat} :∀n,(∀i,i<n->u i<=v i)->total u n<=total v n
 |0,_=>fE _
 |n+1,h=>by have:=VE n (λi a=>h i J);have:=h n J;simp only[total];omega
def VF{u v:Nat->Nat} :∀n,(∀i,i<n->u i<=v i)->(∃i,i<n/\u i≠v i)->total u n<total v n
 |0,_,⟨i,a,_⟩=>J
 |n+1,h,⟨i,a,w⟩=>by
  have v:=VE n (λi a=>h i J);have D:=h n J;simp only[total];by_cases e:i=n
  subst e;omega;have:=VF n (λi a=>h i J) ⟨i,J,w⟩;omega
def I5{u:Nat->Nat}{k:Nat} :∀n,(∀i,i<n->u i<=k)->total u n<=n*k
 |0,_=>by simp[total]
 |n+1,h=>by have:=I5 n (λi a=>h i J);have:=h n J;simp only[total,qB];omega
end Go.AI.Dom
namespace Go.AI.Tree
open Go.AI.Dom
variable{A V:Nat->Nat}{ah:List (List Int)}{b i k n x y z:Nat}{bw:List Nat}{p:Int}{c us:List Int}
structure VW(bw:List Nat)(us:List Int)(n:Nat)(V:Nat->Nat)(k:Nat):Prop where
 len:Y us=n
 set:∀(i x:Nat),bw[i]?=Z x->i<k->∃y:Nat,bw[V i]?=Z y/\us[x]?=Z (y:Int)
 un:∀(i x:Nat),bw[i]?=Z x->k<=i->us[x]?=Z (-1)
 out:∀x,x<n->x∉bw->us[x]?=Z (-1)
structure Ord(bw:List Nat)(n:Nat):Prop where
 nd:bw.Nodup
 lt:∀x∈bw,x<n
 zero:bw[0]?=Z 0
def Ord.inj(o:Ord bw n){i j x:Nat}(w:bw[i]?=Z x)(a:bw[j]?=Z x):i=j:=by have j:=(cR.mp w).1;have G:=(cR.mp a).1;have D:=(cR.mp w).2;have F:=(cR.mp a).2;exact(ib o.nd).1 (D.trans F.symm)
def SR(d:Down V)(h:y<x)(w:Nat):(eO V x w/\eO V y w)↔(eO V (V x) w/\eO V y w):=by
 constructor;rintro⟨w,a⟩;have:=a.le d;exact⟨w.up J,a⟩
 rintro⟨w,a⟩;exact⟨.step w,a⟩
def DW(bw:List Nat)(V:Nat->Nat)(k:Nat)(c:List Int)(a:Int):Prop:=
 (a= -1/\∀p∈c,∀i,i<k->¬ ∃x:Nat,bw[i]?=Z x/\p=x)\/∃z y:Nat,z<k/\bw[z]?=Z y/\a=y/\(∃p∈c,∃i,i<k/\∃x:Nat,bw[i]?=Z x/\p=x)/\∀w,eO V z w↔ ∀p∈c,∀i,i<k->(∃x:Nat,bw[i]?=Z x/\p=x)->eO V i w
def DW.nil(bw:List Nat)(V:Nat->Nat)(k:Nat):DW bw V k [] (-1):=fc ⟨Q,λp a=>by cases a⟩
def DW.skip{F p:Int}(b:DW bw V k c F)(D:∀i,i<k->¬ ∃x:Nat,bw[i]?=Z x/\p=x):DW bw V k (c++[p]) F:=by rcases b with⟨e,h⟩|⟨z,y,F,G,e,⟨q,a,H⟩,h⟩;refine fc ⟨e,λq a=>?_⟩;rcases jL.1 a with a|a;exact h q a;simp at a;subst a;exact D;refine ft ⟨z,y,F,G,e,⟨q,jL.2 (fc a),H⟩,λw=>(h w).trans ⟨λH q a i G I=>?_,λH q a=>H q (jL.2 (fc a))⟩⟩;rcases jL.1 a with a|a;exact H q a i G I;simp at a;subst a;exact absurd I (D i G)
def DW.one(o:Ord bw n)(b:DW bw V k c (-1))(G:i<k)(D:bw[i]?=Z x)(F:p=x):DW bw V k (c++[p]) p:=by
 rcases b with⟨_,h⟩|⟨z,y,_,_,e,_⟩
 .refine ft ⟨i,x,G,D,F,⟨p,ag,i,G,x,D,F⟩,λw=>⟨λH q a j N ⟨I,d,e⟩=>?_,λH=>H p ag i G ⟨x,D,F⟩⟩⟩;rcases jL.1 a with a|a;exact absurd ⟨I,d,e⟩ (h q a j N)
  .simp at a;subst a;have:I=x:=J
   subst this;rw[o.inj d D];exact H
 omega
def DW.meet(o:Ord bw n){a:Nat}{m:Int}(b:DW bw V k c (a:Int))(G:bw[i]?=Z x)(A:i<k)(O:p=x)(f:∀F,bw[F]?=Z a->F<k->∃z y:Nat,z<k/\bw[z]?=Z y/\m=y/\∀w,eO V z w↔(eO V F w/\eO V i w)):DW bw V k (c++[p]) m:=by
 rcases b with⟨e,h⟩|⟨z,y,W,P,e,⟨q,D,F⟩,h⟩;omega
 .have:a=y:=J
  subst this;have⟨d,u,m,N,X,r⟩:=f z P W;refine ft ⟨d,u,m,N,X,⟨q,jL.2 (fc D),F⟩,λw=>(r w).trans ?_⟩;rw[h w];constructor
  .rintro⟨s,g⟩ q D j H ⟨T,I,u⟩;rcases jL.1 D with D|D;exact s q D j H ⟨T,I,u⟩
   .simp at D;subst D;have:T=x:=J
    subst this;rw[o.inj I G];exact g
  intro H;exact⟨λq D=>H q (jL.2 (fc D)),H p ag i A ⟨x,G,O⟩⟩
def pg(bw:List Nat)(ah:List (List Int))(b:Nat):List Nat:=
 (aA (Y bw)).filter λi=>match bw[i]?,bw[b]? with
  |some x,Z y=>((ah[y]?).getD []).contains (x:Int)
  |_,_=>b9
def rj(a:bw[b]?=Z y)(D:ah[y]?=Z c) :i∈pg bw ah b↔ ∃x:Nat,bw[i]?=Z x/\(x:Int)∈c:=by unfold pg;rw[EG,QM,a];constructor;rintro⟨a,a⟩;rcases w:bw[i]? with _|x;rw[w] at a;simp at a;rw[w] at a;simp[D] at a;exact⟨x,Q,a⟩;rintro⟨x,w,F⟩;refine⟨(cR.mp w).1,?_⟩;rw[w];simpa [D] using F
def Mn(b w:Nat)(h:w∈pg bw ah b):w<Y bw:=by unfold pg at h;exact QM.1 (EG.1 h).1
def uY(V:Nat->Nat)(i z j:Nat):Nat:=if j=i then z else V j
def Down.uY{V:Nat->Nat}(d:Down V){i z:Nat}(w:0<i)(D:z<i):Down (uY V i z):=by refine⟨?_,λj a=>?_⟩;unfold Tree.uY;rw[bM J];exact d.zero;unfold Tree.uY;split;omega;exact d.lt j a
structure Oa(bw:List Nat)(ah:List (List Int))(n:Nat)(us:List Int)(first:Bool)(A V:Nat->Nat)(i:Nat)(iB:Bool):Prop where
 rep:VW bw us n V (if first then i else Y bw)
 dn:Down V
 bU:first=b9->∀j,i<=j->V j=A j
 auF:first=cd->∀b,0<b->b<i->(∀w∈pg bw ah b,w<b->eO V w (V b))/\∀z,(∀w∈pg bw ah b,w<b->eO V w z)->eO V (V b) z
 rnd:first=b9->∀b,0<b->b<i->(∀w∈pg bw ah b,eO (mix A V b) w (V b))/\∀z,(∀w∈pg bw ah b,eO (mix A V b) w z)->eO (mix A V b) (V b) z
 chg:first=b9->iB=cd->∃j,j<i/\V j≠A j
def VW.put(o:Ord bw n)(r:VW bw us n V k)(F:bw[i]?=Z x)(h:bw[z]?=Z y)(b:k<=i+1)(p:i<=k):VW bw (us.set x (y:Int)) n (uY V i z) (i+1):=by
 have N:x<Y us:=by rw[r.len];exact o.lt x (cK F)
 refine⟨by simp[r.len],λj w a G=>?_,λj w a G=>?_,λw I H=>?_⟩;by_cases e:j=i;subst e;rw[F] at a;cases a;exact⟨y,by rw[uY,bH Q,h],by rw[fq,bH Q,bH N]⟩;have⟨O,s,G⟩:=r.set j w a J;refine⟨O,by rw[uY,bM e,s],?_⟩;rw[fq,bM (λD=>e (by subst D;exact o.inj a F)),G]
 .have T:¬x=w:=λD=>by subst D;have:=o.inj a F;omega
  rw[fq,bM T];exact r.un j w a J
 rw[fq,bM (λD:x=w=>H (D▸cK F))];exact r.out w I H
def VW.aCC(o:Ord bw n)(r:VW bw us n V k)(F:bw[i]?=Z x)(h:bw[z]?=Z y)(b:i<k):VW bw (us.set x (y:Int)) n (uY V i z) k:=by
 have N:x<Y us:=by rw[r.len];exact o.lt x (cK F)
 refine⟨by simp[r.len],λj w a G=>?_,λj w a G=>?_,λw I H=>?_⟩;by_cases e:j=i;subst e;rw[F] at a;cases a;exact⟨y,by rw[uY,bH Q,h],by rw[fq,bH Q,bH N]⟩;have⟨O,s,G⟩:=r.set j w a J;refine⟨O,by rw[uY,bM e,s],?_⟩;rw[fq,bM (λD=>e (by subst D;exact o.inj a F)),G]
 .have T:¬x=w:=λD=>by subst D;have:=o.inj a F;omega
  rw[fq,bM T];exact r.un j w a J
 rw[fq,bM (λD:x=w=>H (D▸cK F))];exact r.out w I H
def aaJ(h:b<=i):mix A (uY V i z) b=mix A V b:=by funext j;unfold mix uY;by_cases h:j<b;rw[bH h,bH h,bM J];rw[bM h,bM h]
def Oa.step{bw:List Nat}{ah:List (List Int)}{n:Nat}(M:Ord bw n){us:List Int}{first q:Bool}{A V:Nat->Nat}{i:Nat}(m:Oa bw ah n us first A V i q)(j:0<i){x:Nat}(F:bw[i]?=Z x){c:List Int}(o:ah[x]?=Z c)(u:∃w∈pg bw ah i,w<i){e:Int}(h:DW bw V (if first then i else Y bw) c e):∃y z:Nat,e=y/\bw[z]?=Z y/\Oa bw ah n (us.set x e) first A (uY V i z) (i+1) (q||(decide (us[x]? ≠Z e))):=by
 have S:=(cR.mp F).1;have⟨k,e,N⟩:=u;have u:i<=(if first then i else Y bw):=by split<;>omega
 have⟨u,N,D⟩:=(rj F o).1 e;rcases h with⟨e,h⟩|⟨z,y,s,s,rfl,_,H⟩;exact absurd ⟨u,N,Q⟩ (h _ D k J);have P:z<i:=by have:=((H z).1 (.refl _)) _ D k J ⟨u,N,Q⟩;have:=this.le m.dn;omega
 refine⟨y,z,Q,s,?_⟩;have N:Down (uY V i z):=Down.uY m.dn j P;have k:∀w u,w<i->(eO (uY V i z) w u↔eO V w u):=λw u D=>⟨λh=>h.local N (λj O=>by unfold uY;rw[bM J]) D,λh=>h.local m.dn (λj O=>by unfold uY;rw[bM J]) D⟩;cases g:first
 .have r:=m.rep;rw[g] at r H;simp only[Jl,if_false] at r H;have C:=m.bU g;have l:mix A V i=V:=by funext j;unfold mix;split;rfl;exact(C j J).symm
  refine⟨?_,N,λ_ j O=>?_,λh=>by simp at h,λ_ b t T=>?_,λ_ E=>?_⟩;have:=r.aCC M F s S;simpa using this;unfold uY;rw[bM J];exact C j J
  .by_cases e:b=i
   .subst e;have f:uY V b z b=z:=by unfold uY;rw[bH rfl]
    rw[f,aaJ (fE _),l];refine⟨λw D=>?_,λu l=>?_⟩;have⟨a,d,G⟩:=(rj F o).1 D;exact((H z).1 (.refl _)) _ G w (Mn _ _ D) ⟨a,d,Q⟩;refine(H u).2 λp B j O ⟨a,d,L⟩=>?_;exact l j ((rj F o).2 ⟨a,d,L▸B⟩)
   .have I:b<i:=J
    have f:uY V i z b=V b:=by unfold uY;rw[bM e]
    rw[f,aaJ J];exact m.rnd g b t I
  .by_cases v:q=cd;have⟨j,O,U⟩:=m.chg g v;exact⟨j,J,by unfold uY;rw[bM J];exact U⟩
   .have U:q=b9:=ak v
    rw[U] at E;simp only[Bool.false_or,decide_eq_true_eq] at E;refine⟨i,J,?_⟩;unfold uY;rw[bH rfl];intro e;obtain⟨v,q,v⟩:=r.set i x F S;rw[C i (fE _),<-e,s] at q;cases q;exact E v
 .have r:=m.rep;rw[g] at r H;simp only[bH] at r H;refine⟨?_,N,λh=>by simp at h,λ_ b t T=>?_,λh=>by simp at h,λh=>by simp at h⟩;have:=r.put M F s J J;simpa using this
  .by_cases e:b=i
   .subst e;have f:uY V b z b=z:=by unfold uY;rw[bH rfl]
    rw[f];refine⟨λw D r=>?_,λu l=>?_⟩;have⟨a,d,G⟩:=(rj F o).1 D;exact(k w z r).2 (((H z).1 (.refl _)) _ G w r ⟨a,d,Q⟩);refine(k z u P).2 ((H u).2 λp B j O ⟨a,d,L⟩=>?_);exact(k j u O).1 (l j ((rj F o).2 ⟨a,d,L▸B⟩) O)
   .have I:b<i:=J
    have f:uY V i z b=V b:=by unfold uY;rw[bM e]
    rw[f];have⟨q,v⟩:=m.auF g b t I;have I:=m.dn.lt b t;refine⟨λw D r=>(k w _ J).2 (q w D r),λu l=>(k _ u J).2 (v u λw D r=>(k w u J).1 (l w D r))⟩
def Btw(bw:List Nat)(ah:List (List Int))(V:Nat->Nat):Prop:=
 Down V/\(aeI (Y bw) (pg bw ah) V\/∃A,Down A/\Round (Y bw) (pg bw ah) A V/\yH (Y bw) A V)
def aCr(o:Ord bw n):VW bw ((an n (-1:Int)).set 0 0) n (λi=>i-1) 1:=by
 have b:=o.lt 0 (cK o.zero);have D:∀x,¬x=0->x<n->((an n (-1:Int)).set 0 0)[x]?=Z (-1):=by intro x w G;rw[fq,bM (λe=>w e.symm),TV,bH G]
 refine⟨ag,λi x a F=>?_,λi x a F=>?_,λx w H=>?_⟩
 .have:i=0:=J
  subst this;rw[o.zero] at a;cases a;exact⟨0,o.zero,by rw[fq,bH Q,bH (ak b)];rfl⟩
 refine D x (λe=>?_) (o.lt x (cK a));subst e;have:=o.inj a o.zero;omega
 exact D x (λe=>H (e▸cK o.zero)) w
def acE(o:Ord bw n)(A:Nat->Nat)(a:Bool):Oa bw ah n ((an n (-1:Int)).set 0 0) cd A (λi=>i-1) 1 a:=
 ⟨ak (aCr o),⟨Q,λi D=>by show i-1<i;omega⟩,λh=>by simp at h,λ_ b o w=>J,λh=>by simp at h,λh=>by simp at h⟩
def agx(r:VW bw us n A (Y bw))(d:Down A):Oa bw ah n us b9 A A 1 b9:=
 ⟨ak r,d,λ_ _ _=>rfl,λh=>by simp at h,λ_ b d a=>J,λ_ h=>by simp at h⟩
def Oa.done{first I:Bool}(m:Oa bw ah n us first A V (Y bw) I)(O:first=b9->Btw bw ah A)(H:∀b,0<b->b<Y bw->∃w∈pg bw ah b,w<b):Btw bw ah V/\VW bw us n V (Y bw)/\(first=b9->I=cd->total V (Y bw)<total A (Y bw)):=by
 have r:=m.rep;cases a:first
 .rw[a] at r;have⟨D,h⟩:=O a;have R:Round (Y bw) (pg bw ah) A V:=λb c F=>m.rnd a b c F;have W:yH (Y bw) A V:=by rcases h with h|⟨G,G,c,F⟩;exact Mx D D m.dn H (λb w=>Mn b w) (fc h) R;exact Mx G D m.dn H (λb w=>Mn b w) (ft ⟨c,F⟩) R
  refine⟨⟨m.dn,ft ⟨A,D,R,W⟩⟩,ak r,λ_ H=>?_⟩;have⟨j,N,w⟩:=m.chg a H;exact VF _ (λi H=>yH.le m.dn D W i H) ⟨j,N,w⟩
 rw[a] at r;exact⟨⟨m.dn,fc λb c F=>m.auF a b c F⟩,ak r,λh=>by simp at h⟩
def Zs(us:List Int)(n:Nat):Prop:=Y us=n/\∃a:Nat->Nat,(∀x,a x<=n)/\∀(x:Nat)(v:Int),us[x]?=Z v->v= -1\/∃y:Nat,v=y/\y<n/\a y<a x
def auS(o:Ord bw n)(d:Down V)(r:VW bw us n V (Y bw))(F:Y bw<=n):Zs (us.set 0 (-1)) n:=by
 refine⟨by simp[r.len],λx=>bw.idxOf x,λx=>wV List.idxOf_le_length F,λx v a=>?_⟩;rw[fq] at a;by_cases e:0=x;rw[bH e] at a;split at a;cases a;exact fc rfl;cases a
 .rw[bM e] at a;have N:x<n:=by have:=(cR.mp a).1;rw[r.len] at this;exact this
  by_cases G:x∈bw
  .have⟨i,D⟩:=iF G;have c:=(cR.mp D).1;have⟨y,b,w⟩:=r.set i x D c;rw[w] at a;cases a;have c:0<i:=by rcases La i with rfl|h;rw[o.zero] at D;cases D;exact absurd rfl e;exact h
   have w:∀(j z:Nat),bw[j]?=Z z->bw.idxOf z=j:=by
    intro j z H;have O:=cK H;have I:=List.idxOf_lt_length_iff.2 O;have:bw[bw.idxOf z]?=Z z:=by rw[iK I,List.getElem_idxOf I]
    exact o.inj this H
   refine ft ⟨y,Q,o.lt y (cK b),?_⟩;dsimp only;rw[w _ _ b,w _ _ D];exact d.lt i c
  have:=r.out x N G;rw[this] at a;cases a;exact fc rfl
end Go.AI.Tree
namespace Go.Proofs.YtdhnndleffachaaGreatDoor
open Go.AI
variable{A AH B L U:SV}{C I4 W X b bytes c d d3 d4 d5 d8 i j k n n0 n1 n8 o T s s0 H F D w wc:Nat}{DS ps uC us:List Int}{I:bJ->Env->aB->Prop}{S:Nat->Prop}{V:Nat->Nat}{ah:List (List Int)}{bs:List GB}{bw l:List Nat}{e:Env}{h m h0 h1 N O P:aB}{kind:Int}{name:ByteArray}{on:Bool×Int}{q:GI×SV}{a t t' tt:Bool}{u:GU}{v:aa}{ws:List SV}{z:List aa}{α G:Type}
def aqy(h:aB)(bw:List Nat)(V:Nat->Nat)(k n I G x y:Nat)(m:Nat)(e:Env)(H:aB):Prop:=
 ∃w a D F:Nat,m=w+a/\bw[w]?=Z D/\bw[a]?=Z F/\w<k/\a<k/\bX e 0=c6 (Z ⟨I,0,K⟩) n n/\bX e 1=c6 (Z ⟨G,0,K⟩) n n/\bz e 2 D/\bz e 3 F/\az aV h H/\∀u,(Dom.eO V x u/\Dom.eO V y u)↔(Dom.eO V w u/\Dom.eO V a u)
def acz(p:cy h)(o:Tree.Ord bw n)(C:Tree.VW bw us n V k)(j:Dom.Down V){f d y H x F:Nat}{L q:Bool}(h1:h.tr.get f=Z (.ch (encI.flat us) L y H))(L:h.tr.get d=Z (.ch (encI.flat uC) q x F))(q:Y uC=n)(q:∀i x:Nat,bw[i]?=Z x->uC[x]?=Z (i:Int)){x y a b:Nat}(g:bw[x]?=Z a)(P:bw[y]?=Z b)(U:x<k)(t:y<k):aY FF 145 [c6 (Z ⟨f,0,K⟩) n n,c6 (Z ⟨d,0,K⟩) n n,dC ef a,dC ef b] h
   (λv m=>az aV h m/\∃z w:Nat,v=dC ef w/\z<k/\bw[z]?=Z w/\∀u,Dom.eO V z u↔(Dom.eO V x u/\Dom.eO V y u)):=by
 refine aY.of WM ?_;unfold Ka;simp;refine aN.loop (aqy h bw V k n f d x y) ?_ (n:=x+y) ⟨x,y,a,b,Q,g,P,U,t,ag,ag,ag,ag,.refl p,λu=>Iff.rfl⟩;rintro U e U⟨D,d,x,O,rfl,f,N,G,U,y,g,t,l,I,A⟩;have M:=I.get p h1;have T:=I.get p L;unfold Gz;have L:=o.lt x (cK f);have W:=o.lt O (cK N);have E:=nj T (q D x f);have S:=nj T (q d O N);by_cases p:x=O
 subst p;have T:=o.inj f N;subst T;simp[t,l];exact⟨I,D,x,Q,G,f,λu=>by rw[A u];simp⟩
 .have T:((x:Int) !=(O:Int))=cd:=by simp;omega
  have q:D≠d:=λe=>p (by subst e;rw[f] at N;cases N;rfl);by_cases q:D<d;have⟨c,s,r⟩:=C.set d O N U;have B:=nj M r;have hV:=j.lt d J;simp[y,g,t,l,T,p,L,W,E,S,q,B,-ay,aK];exact⟨V d+D,J,V d,D,c,x,Q,s,f,J,G,av y,av g,ag,ag,by first|exact I|exact I.tick,λu=>by rw[A u,and_comm,Tree.SR j q]⟩
  .have X:d<D:=J
   have⟨c,s,r⟩:=C.set D x f G;have B:=nj M r;have hV:=j.lt D J;simp[y,g,t,l,T,p,L,W,E,S,q,B,-ay,aK];exact⟨V D+d,J,V D,d,c,O,Q,s,N,J,U,av y,av g,ag,av l,by first|exact I|exact I.tick,λu=>by rw[A u,Tree.SR j X]⟩
def PZ{F:List (List Int)}(w:jm encI n0 h d ws F){D:SV}{c:List Int}(G:ws[i]?=Z D)(f:F[i]?=Z c):ae nR 1 h D.v c:=by have a:=w.acc i D c G f;rcases a with⟨rfl,e⟩|⟨b,f,e,I,N,_⟩;rw[e];exact⟨K,0,Q,fc ⟨Q,fc Q⟩⟩;rw[e];refine⟨_,_,Q,ft ⟨b,0,_,_,_,_,Q,I,λk x H=>?_⟩⟩;have:=encI.Cq c k x H;simp only[aad,og] at this;rw[Je,og,this];exact⟨Q,Q⟩
def nI(l:List Nat):List Int:=l.map λx:Nat=>(x:Int)
def LQ{i x:Nat}(h:l[i]?=Z x):(nI l)[i]?=Z (x:Int):=by simp[nI,h]
structure TS(h0 h:aB)(n:Nat)(bw:List Nat)(uC us:List Int)(ah:List (List Int))(d3 d4 d5 d8 n8:Nat)(ws:List SV):Prop where
 g:az aV h0 h
 n5:h0.ax<=d5
 hO:∃s,h.tr.get d3=Z (.ch (encI.flat (nI bw)) b9 1 s)
 hA:c_ h d4 (encI.flat uC)
 hU:c_ h d5 (encI.flat us)
 acc:jm encI n8 h d8 ws ah
 n8:d5<n8
 ne3:d3≠d5
 ne4:d4≠d5
def TS.grow(w:TS h0 h n bw uC us ah d3 d4 d5 d8 n8 ws)(g:az aV h m):TS h0 m n bw uC us ah d3 d4 d5 d8 n8 ws:=by have⟨H,h1⟩:=w.hO;have⟨F,c⟩:=w.hA;have⟨D,b⟩:=w.hU;have a:=w.g.ok;exact⟨w.g.trans g,w.n5,⟨H,g.get a h1⟩,⟨F,g.get a c⟩,⟨D,g.get a b⟩,w.acc.cr a g,w.n8,w.ne3,w.ne4⟩
def TS.put{h0 h:aB}{n:Nat}{bw:List Nat}{uC us:List Int}{ah:List (List Int)}{d3 d4 d5 d8 n8:Nat}{ws:List SV}(w:TS h0 h n bw uC us ah d3 d4 d5 d8 n8 ws){x:Nat}(G:x<Y us)(v:Int):TS h0 (put h d5 x (encI.flat us) [dC ef v] 0) n bw uC (us.set x v) ah d3 d4 d5 d8 n8 ws:=by have⟨H,h1⟩:=w.hO;have⟨F,d⟩:=w.hA;have⟨D,c⟩:=w.hU;have a:=w.g.ok;have g:az (· =d5) h (AI.put h d5 x (encI.flat us) [dC ef v] 0):=aX a c;refine⟨w.g.put ⟨_,c⟩ (fc w.n5),w.n5,⟨H,g.get a h1 w.ne3⟩,⟨F,g.get a d w.ne4⟩,⟨h.clock,by rw[bc,tA us x v G]⟩,w.acc.grow a g (λb O e=>aw w.n8),w.n8,w.ne3,w.ne4⟩
def PrI(h:aB)(e:Env)(bw:List Nat)(V:Nat->Nat)(k:Nat)(ps:List Int)(m:Nat)(b:Env)(w:aB):Prop:=
 ∃(j:Nat) (a:Int),m=Y ps-j/\j<=Y ps/\bz b 55 j/\bz b 12 a/\aH [12,14,55,56,57,58,59,60,61,62,63,64,65,66,67,68,69,70,71,72,73,74] e b/\az aV h w/\Tree.DW bw V k (ps.take j) a
def aoZ(r:Tree.VW bw us n V k){u:Nat}(G:u<n):(us[u]?=Z (-1)/\∀i,i<k->¬bw[i]?=Z u)\/∃(i y:Nat),i<k/\bw[i]?=Z u/\us[u]?=Z (y:Int):=by
 by_cases D:∃i,i<k/\bw[i]?=Z u;have⟨i,a,w⟩:=D;have⟨y,_,P⟩:=r.set i u w a;exact ft ⟨i,y,a,w,P⟩;refine fc ⟨?_,λi a h=>D ⟨i,a,h⟩⟩;by_cases F:u∈bw;have⟨i,a⟩:=iF F;exact r.un i u a (by rcases Bb i k with h|h;exact absurd ⟨i,h,a⟩ D;exact h);exact r.out u G F
def ac1(q:TS h0 h n bw uC us ah d3 d4 d5 d8 n8 ws)(o:Tree.Ord bw n)(A:Tree.VW bw us n V k)(dn:Dom.Down V)(s:n<1000000)(hla:Y uC=n)(IE:∀i x:Nat,bw[i]?=Z x->uC[x]?=Z (i:Int)){x:Nat}{g:SV}(B:ws[x]?=Z g)(b:ah[x]?=Z ps)(T:Y ps<1000000)(E:∀p∈ps,0<=p/\p<n)(s:bX e 4=c6 (Z ⟨d4,0,K⟩) n n)(d:bX e 5=c6 (Z ⟨d5,0,K⟩) n n)(S:bz e 12 (-1))(L:bX e 53=g.v)(T:bz e 54 (Y ps))(l:bz e 55 0)(C:∀r m P,az aV h m->aH [12,14,55,56,57,58,59,60,61,62,63,64,65,66,67,68,69,70,71,72,73,74] e r->bz r 12 P->Tree.DW bw V k ps P->I (.exit 6) r m):aN FF (.loop wz) e h I:=by
 have W:=q.g.ok;have y:=PZ q.acc B b;have Sz:=ae.len y;refine aN.loop (PrI h e bw V k ps) ?_ (n:=Y ps) ⟨0,-1,Q,J,l,S,aH.refl _ _,.refl W,ak (Tree.DW.nil bw V k)⟩;rintro X r t⟨j,P,rfl,b,G,M,f,X,O⟩;have S:=q.grow X;have B:=f.at s;have b:=f.at d;have D:=f.at L;have H:=f.at T;unfold wz;by_cases L:j<Y ps
 .have s:ps[j]?=Z ps[j]:=iK L;have U:=IB L;generalize ps[j]=p at s U;have⟨l,d⟩:=E p U;obtain⟨u,rfl⟩:∃u:Nat,p=u:=⟨p.toNat,J⟩;have g:u<n:=J
  obtain⟨d,E,c,E,_,_,rfl,_,d⟩:=ae.later W y s;have T:=d t X 0 1 ai;simp[-ay] at T;have U:=bZ ((j:Int)+1) J J;have⟨W,l⟩:=S.hU;have⟨w,hA⟩:=S.hA;have r:ps.take (j+1)=ps.take j++[(u:Int)]:=by rw[mw,s];rfl
  simp at D;rw[E,Sz] at D;rcases aoZ A g with⟨F,W⟩|⟨i,d,y,F,W⟩
  .have E:=nj l F;simp[B,b,D,H,G,L,T,g,E,-ay,U];refine⟨Y ps-(j+1),J,j+1,P,Q,J,ag,av M,?_,X,?_⟩
   .exact au
   rw[r];exact O.skip (λi y ⟨x,s,e⟩=>W i y (by rw[s];congr 1;omega))
  .have E:=nj l W;have x:¬(d:Int)<0:=J
   rcases(show P= -1\/∃a:Nat,P=a by
    rcases O with⟨e,_⟩|⟨_,a,_,_,e,_⟩;exact fc e;exact ft ⟨a,e⟩) with rfl|⟨a,rfl⟩
   .simp[B,b,D,H,G,M,L,T,g,E,-ay,U,x];refine⟨Y ps-(j+1),J,j+1,u,Q,J,ag,ag,?_,X,?_⟩
    .exact au
    rw[r];exact O.one o y F rfl
   .have ha0:¬(a:Int)<0:=J
    have⟨S,W,hzk⟩:∃S,bw[S]?=Z a/\S<k:=by
     rcases O with⟨e,_⟩|⟨z,s,d,N,e,_⟩;omega
     .have:s=a:=J
      subst this;exact⟨z,N,d⟩
    simp[B,b,D,H,G,M,L,T,g,E,-ay,x,ha0];refine bm.call (V:=λv m=>az aV t m/\∃z q:Nat,v=dC ef q/\z<k/\bw[z]?=Z q/\∀u,Dom.eO V z u↔(Dom.eO V S u/\Dom.eO V i u)) (ak (acz X.ok o A dn l hA hla IE W F hzk y)) ?_;rintro _ B⟨T,z,v,rfl,d,N,b⟩;simp[U,G];refine⟨Y ps-(j+1),J,j+1,v,Q,J,ag,ag,?_,X.trans T,?_⟩
    .exact au
    rw[r];refine O.meet o F y rfl (λB h1 _=>?_);rw[o.inj h1 W];exact⟨z,v,d,N,Q,b⟩
 .have:j=Y ps:=J
  subst this;rw[mI] at O;simp[H,G];exact C _ _ P X (f.set) (av M) O
def ahw{x:Nat}{v:Int}(h:us[x]?=Z v):us.set x v=us:=by refine Bc λi=>?_;rw[fq];split;rename_i e;subst e;rw[h,bH (cR.mp h).1];rfl
structure Hd(n:Nat)(ah:List (List Int)):Prop where
 len:Y ah=n
 row:∀(x:Nat)(ps:List Int),ah[x]?=Z ps->Y ps<1000000/\∀p∈ps,0<=p/\p<n
structure TC(n:Nat)(bw:List Nat)(uC:List Int)(ah:List (List Int)):Prop where
 o:Tree.Ord bw n
 nl:n<=1000
 la:Y uC=n
 at':∀i x:Nat,bw[i]?=Z x->uC[x]?=Z (i:Int)
 rows:Hd n ah
 hf:∀b,0<b->b<Y bw->∃w∈Tree.pg bw ah b,w<b
 ln:Y bw<=n
structure TE(n:Nat)(r d3 d4 d5 d8:Nat)(e:Env):Prop where
 f3:bX e 3=c6 (Z ⟨d3,0,K⟩) r r
 f4:bX e 4=c6 (Z ⟨d4,0,K⟩) n n
 f5:bX e 5=c6 (Z ⟨d5,0,K⟩) n n
 f8:bX e 8=c6 (Z ⟨d8,0,K⟩) n n
def RdI(h0:aB)(n:Nat)(bw:List Nat)(uC:List Int)(ah:List (List Int))(d3 d4 d5 d8 n8:Nat)(ws:List SV)(first:Bool)(A:Nat->Nat)(m:Nat)(e:Env)(h:aB):Prop:=
 ∃(j:Nat) (us:List Int) (V:Nat->Nat) (a:Bool),m=Y bw-(j+1)/\j+1<=Y bw/\TS h0 h n bw uC us ah d3 d4 d5 d8 n8 ws/\Tree.Oa bw ah n us first A V (j+1) a/\TE n (Y bw) d3 d4 d5 d8 e/\bX e 9=dd a/\bX e 44=c6 (Z ⟨d3,1,K⟩) (Y bw-1) (Y bw-1)/\bz e 45 ((Y bw-1:Nat):Int)/\bz e 46 j
def Za(w:TS h0 h n bw uC us ah d3 d4 d5 d8 n8 ws)(c:TC n bw uC ah){first l:Bool}{A V:Nat->Nat}(x:0<Y bw)(M:Tree.Oa bw ah n us first A V 1 l)(E:TE n (Y bw) d3 d4 d5 d8 e)(f:bX e 9=dd l)(L:bX e 44=c6 (Z ⟨d3,1,K⟩) (Y bw-1) (Y bw-1))(P:bz e 45 ((Y bw-1:Nat):Int))(q:bz e 46 0)(C:∀d m s g k,TS h0 m n bw uC s ah d3 d4 d5 d8 n8 ws->Tree.Oa bw ah n s first A g (Y bw) k->TE n (Y bw) d3 d4 d5 d8 d->bX d 9=dd k->I (.exit 4) d m):aN FF (.loop kX) e h I:=by
 have d:=c.nl;have d:=c.ln;refine aN.loop (RdI h0 n bw uC ah d3 d4 d5 d8 n8 ws first A) ?_ (n:=Y bw-1) ⟨0,us,V,l,J,x,w,M,E,f,L,P,q⟩;rintro P P h1⟨j,d,V1,P,rfl,L,G,N,D,s,L,l,k⟩;have q:=G.g.ok;unfold kX;by_cases g:j+1<Y bw
 .have⟨x,q⟩:=aR bw (j+1) g;have f:=c.o.lt x (cK q);have⟨ps,i⟩:=aR ah x (by rw[c.rows.len];exact f);have⟨M,y⟩:=aR ws x (by rw[G.acc.len,c.rows.len];exact f);have⟨r,u⟩:=c.rows.row x ps i;have⟨H,M⟩:=G.hO;have⟨E,b⟩:=G.acc.ch;have a:=nj M (LQ q);rw[ik] at a;have E:=tR b y;have b:=ae.len (PZ G.acc y i);have o:(j:Int)<((Y bw-1:Nat):Int):=J
  have M:j<Y bw-1:=J
  have t:=bZ ((j:Int)+1) J J;simp[-ay] at E;simp[L,l,k,o,M,a,D.f8,f,E,b,-ay];refine ac1 G c.o N.rep N.dn J c.la c.at' y i r u (by simp[D.f4]) (by simp[D.f5]) ag (av b) (av b) ag ?_;intro u b b y b E O;have r:=G.grow y;obtain⟨y,z,rfl,M,p⟩:=N.step c.o (aai _) q i (c.hf (j+1) (aai _) g) O;have i:=b.at (t:=5) (aq D.f5);have M:bX u 11=dC ef x:=b.at ag;have u:=b.at (t:=3) (aq D.f3);have T:=b.at (t:=4) (aq D.f4);have q:=b.at (t:=8) (aq D.f8);have X:=b.at (t:=9) (aq s);have U:=b.at (t:=44) (aq L);have W:=b.at (t:=45) (aq l);have L:=b.at (t:=46) (aq k);have⟨b,B⟩:=r.hU;have b:Y d=n:=N.rep.len;have⟨v,b⟩:=aR d x;have S:=nj B b;have Bh:x+1<=Y d:=J
  by_cases F:v=(y:Int);subst F;rw[ahw b] at p;simp[i,M,E,f,S,t,L,-ay];refine⟨Y bw-(j+1+1),J,j+1,d,_,P,Q,g,r,by simpa [b] using p,⟨?_,?_,?_,?_⟩,?_,?_,?_,?_⟩;simp[u];simp[T];simp[i];simp[q];simp[X];simp[U];simp[W];simp
  .have X:(v !=(y:Int))=cd:=ak F
   simp[i,M,E,f,S,t,L,X,F,B,Bh,-ay];refine⟨Y bw-(j+1+1),J,j+1,d.set x (y:Int),_,cd,Q,g,r.put J _,by simpa [b,F] using p,⟨?_,?_,?_,?_⟩,?_,?_,?_,?_⟩;simp[u];simp[T];simp[i];simp[q];simp;simp[U];simp[W];simp
 .have W:j+1=Y bw:=J
  rw[W] at N;have o:¬(j:Int)<((Y bw-1:Nat):Int):=J
  simp[l,k,o];exact C _ _ d V1 P G N ⟨by simp[D.f3],by simp[D.f4],by simp[D.f5],by simp[D.f8]⟩ (av s)
def TrI(h0:aB)(n:Nat)(bw:List Nat)(uC:List Int)(ah:List (List Int))(d3 d4 d5 d8 n8:Nat)(ws:List SV)(m:Nat)(e:Env)(h:aB):Prop:=
 ∃(us:List Int) (a:Bool),TS h0 h n bw uC us ah d3 d4 d5 d8 n8 ws/\TE n (Y bw) d3 d4 d5 d8 e/\bX e 9=dd a/\((a=cd/\us=(an n (-1:Int)).set 0 0/\m=Y bw*Y bw+2)\/∃V,Tree.Btw bw ah V/\Tree.VW bw us n V (Y bw)/\m=if a then Dom.total V (Y bw)+1 else 0)
def Vd(w:TS h0 h n bw uC ((an n (-1:Int)).set 0 0) ah d3 d4 d5 d8 n8 ws)(c:TC n bw uC ah)(g:0<Y bw)(E:TE n (Y bw) d3 d4 d5 d8 e)(p:bX e 9=dd cd)(C:∀f m d k,TS h0 m n bw uC d ah d3 d4 d5 d8 n8 ws->Tree.Btw bw ah k->Tree.VW bw d n k (Y bw)->TE n (Y bw) d3 d4 d5 d8 f->I (.exit 2) f m):aN FF (.loop wB) e h I:=by
 refine aN.loop (TrI h0 n bw uC ah d3 d4 d5 d8 n8 ws) ?_ (n:=Y bw*Y bw+2) ⟨_,cd,w,E,p,fc ⟨Q,Q,Q⟩⟩;rintro d p h1⟨us,E,f,a,k,q⟩;unfold wB;cases E;rcases q with⟨h,_⟩|⟨V,D,b,rfl⟩;cases h;simp[k];exact C _ _ us V f D b ⟨by simp[a.f3],by simp[a.f4],by simp[a.f5],by simp[a.f8]⟩;have u:1<=Y bw:=g;have⟨s,E⟩:∃s,s=Y bw-1:=⟨_,Q⟩;have l:∀(first:Bool)(A V:Nat->Nat),Tree.Oa bw ah n us first A V 1 b9->(first=b9->Tree.Btw bw ah A/\d=Dom.total A (Y bw)+1)->(first=cd->d=Y bw*Y bw+2)->aN FF (.loop kX)
   (Tr.set (Tr.set (Tr.set (Tr.set (Tr.set (Tr.set p 42 (dd cd)) 9 (dd b9)) 43 (c6 (Z ⟨d3,0,K⟩) (Y bw) (Y bw))) 44 (c6 (Z ⟨d3,1,K⟩) (Y bw-1) (Y bw-1))) 45 (dC ef ((Y bw-1:Nat):Int))) 46 (dC ef 0)) h1
   (λx O G=>x=.exit 4/\∃F,F<d/\TrI h0 n bw uC ah d3 d4 d5 d8 n8 ws F O G):=by
  intro first A V M j y
  refine Za f c g M ⟨by simp[a.f3],by simp[a.f4],by simp[a.f5],by simp[a.f8]⟩ ag ag ag ag ?_;intro O G o g N v E t M;refine⟨Q,?_⟩;have⟨D,b,r⟩:=E.done (λh=>(j h).1) c.hf;refine⟨_,?_,o,N,v,t,M,ft ⟨g,D,b,Q⟩⟩;have o:Dom.total g (Y bw)<=Y bw*Y bw:=Dom.I5 _ (λi g=>by rcases La i with rfl|h;rw[D.1.zero];exact Nat.zero_le _;have:=D.1.lt i h;omega)
  cases g:first
  have⟨_,o⟩:=j g;cases j:N;simp;omega;have:=r g j;simp;omega
  have:=y g;split<;>omega
 have g:aN FF (.loop kX)
   (Tr.set (Tr.set (Tr.set (Tr.set (Tr.set (Tr.set p 42 (dd cd)) 9 (dd b9)) 43 (c6 (Z ⟨d3,0,K⟩) (Y bw) (Y bw))) 44 (c6 (Z ⟨d3,1,K⟩) (Y bw-1) (Y bw-1))) 45 (dC ef ((Y bw-1:Nat):Int))) 46 (dC ef 0)) h1
   (λx O G=>x=.exit 4/\∃F,F<d/\TrI h0 n bw uC ah d3 d4 d5 d8 n8 ws F O G):=by
  rcases q with⟨_,rfl,rfl⟩|⟨V,D,b,o⟩;exact l cd (λ_=>0) _ (Tree.acE c.o _ _) (λh=>by cases h) (λ_=>rfl);exact l b9 V V (Tree.agx b D.1) (λ_=>⟨D,ak o⟩) (λh=>by cases h)
 have⟨H,o⟩:=f.hO;simp[k,a.f3,u,o];refine g.mono ?_;rintro x O G⟨rfl,F,o,x⟩;simp;exact⟨F,o,x⟩
def AtI(h:aB)(n:Nat)(bw:List Nat)(d3 d4:Nat)(e:Env)(m:Nat)(x:Env)(a:aB):Prop:=
 ∃(j:Nat) (uC:List Int),m=Y bw-j/\j<=Y bw/\bz x 28 j/\aH [28,6,7,29,30,31,32,33,34,35,36,37] e x/\az (· =d4) h a/\(c_ a d4 (encI.flat uC))/\Y uC=n/\∀i x:Nat,i<j->bw[i]?=Z x->uC[x]?=Z (i:Int)
def aiB(A:cy h)(o:Tree.Ord bw n)(L:Y bw<=n)(b:n<=1000){d3 d4 D w r:Nat}(t:h.tr.get d3=Z (.ch (encI.flat (nI bw)) b9 r D))(M:dR h d4 (encI.flat uC) w)(b:Y uC=n)(V:d3≠d4)(S:bX e 4=c6 (Z ⟨d4,0,K⟩) n n)(O:bX e 26=c6 (Z ⟨d3,0,K⟩) (Y bw) (Y bw))(N:bz e 27 (Y bw))(p:bz e 28 0)(C:∀z m T,aH [28,6,7,29,30,31,32,33,34,35,36,37] e z->az (· =d4) h m->(c_ m d4 (encI.flat T))->Y T=n->(∀i x:Nat,bw[i]?=Z x->T[x]?=Z (i:Int))->I (.exit 0) z m):aN FF (.loop wC) e h I:=by
 refine aN.loop (AtI h n bw d3 d4 e) ?_ (n:=Y bw) ⟨0,uC,Q,J,p,aH.refl _ _,.refl A,⟨w,M⟩,b,λi x h=>J⟩;rintro L z g⟨j,F,rfl,v,q,M,k,⟨s,G⟩,u,B⟩;have X:=M.at S;have b:=M.at O;have U:=M.at N;unfold wC;by_cases H:j<Y bw
 .have⟨x,T⟩:=aR bw j H;have L:=o.lt x (cK T);have y:=k.get A t V;have a:=nj y (LQ T);have S:=bZ ((j:Int)+1) J J;have t:x+1<=Y F:=J
  simp[X,b,U,q,H,a,L,G,t,S,-ay];refine⟨Y bw-(j+1),J,j+1,F.set x j,Q,H,ag,?_,k.trans (aX k.ok G),⟨g.clock,by rw[bc,tA F x j J]⟩,av u,λi y X P=>?_⟩
  .exact au
  rw[fq];by_cases e:x=y;subst e;rw[bH Q,bH J,o.inj P T];rw[bM e];by_cases b:i=j;subst b;rw[T] at P;cases P;exact absurd rfl e;exact B i y J P
 .have:j=Y bw:=J
  subst this;simp[U,q];exact C _ _ F (M.set) k ⟨s,G⟩ u (λi x T=>B i x (cR.mp T).1 T)
def dU(bs:List GB):List Nat:=(Dfs.uD (gT bs) (Y bs)).reverse
def Rw(bs:List GB):(wg bs).reverse=nI (dU bs):=by simp[wg,dU,nI,List.map_reverse]
def Gv(E:kg bs)(h0:0<Y bs):Tree.Ord (dU bs) (Y bs):=by have⟨h1,a,⟨x,D⟩,_,_⟩:=Dfs.JK h0 (xS E);refine⟨List.pairwise_reverse.2 (h1.imp λh=>h.symm),λx w=>a x (jT.1 w),?_⟩;unfold dU;rw[D];simp
def agY(E:kg bs)(h0:0<Y bs):Y (dU bs)<=Y bs/\0<Y (dU bs):=by have o:=Gv E h0;refine⟨?_,?_⟩;have:=YS o.nd (l₂:=aA (Y bs)) (λx a=>QM.2 (o.lt x a));simpa using this;exact(cR.mp o.zero).1
def Z0(E:kg bs):Hd (Y bs) (Edge.dm (cx bs)):=by
 have F:Y (cx bs)=Y bs:=by simp[cx]
 have d:∀a∈cx bs,∀t∈a,t.toNat<Y (cx bs):=by intro a w t D;obtain⟨b,O,rfl⟩:=iT.1 w;have:=E.to b O t D;rw[F];omega
 refine⟨by rw[Edge.iV,F],λx ps G=>⟨?_,λp H=>?_⟩⟩
 .have h1:=Edge.zc (n:=Y (cx bs)) (tos:=cx bs) (λa w=>by obtain⟨b,O,rfl⟩:=iT.1 w;exact E.two b O) x (Y (cx bs));have c:((Edge.upto (Y (cx bs)) (cx bs) (Y (cx bs)))[x]?).getD []=ps:=by show((Edge.dm (cx bs))[x]?).getD []=ps;rw[G];rfl
  rw[c] at h1;have:=E.len;omega
 have I:=(Edge.HO d (u:=x) (x:=p)).1 (by rw[G];exact H);obtain⟨i,rfl,a,D,_⟩:=I;have:=(cR.mp D).1;omega
def Ps(E:kg bs)(h0:0<Y bs):∀b,0<b->b<Y (dU bs)->∃w∈Tree.pg (dU bs) (Edge.dm (cx bs)) b,w<b:=by
 intro b O f;have o:=Gv E h0;obtain⟨h1,g,_,_,g⟩:=Dfs.JK h0 (xS E);have c:Y (cx bs)=Y bs:=by simp[cx]
 have i:∀x∈cx bs,∀t∈x,t.toNat<Y (cx bs):=by intro x x t H;obtain⟨b,O,rfl⟩:=iT.1 x;have:=E.to b O t H;rw[c];omega
 have⟨x,G⟩:=aR (dU bs) b f;have f:=cK G;have E:x≠0:=λe=>by subst e;have:=o.inj G o.zero;omega
 have⟨p,a,h,d,y,j⟩:=g x (jT.1 f) E;have⟨ps,E⟩:=aR (Edge.dm (cx bs)) x (by rw[Edge.iV,c];exact o.lt x f);have F:dU bs=d.reverse++x::h.reverse:=by unfold dU;rw[y];simp
 have⟨w,N⟩:=iF (jT.2 j);have f:=(cR.mp N).1;have I:(dU bs)[w]?=Z p:=by rw[F,Jf f,N]
 have f:(dU bs)[Y d.reverse]?=Z x:=by rw[F,Hv (fE _)];simp
 have:=o.inj G f;refine⟨w,(Tree.rj G E).2 ⟨p,I,?_⟩,J⟩;have d:=(Edge.HO i (u:=x) (x:=(p:Int))).2 (by unfold Dfs.row gT at a;rw[gu] at a;rcases D:bs[p]? with _|y;rw[D] at a;simp at a;rw[D] at a;simp at a;have⟨t,H,e⟩:=a;exact⟨p,Q,y.to,by simp[cx,D],t,H,e.symm⟩)
 rw[E] at d;exact d
def akI(h:aB)(n:Nat)(v:aa)(m:aB):Prop:=az aV h m/\∃d us s,v=c6 (Z ⟨d,0,K⟩) n n/\h.ax<=d/\m.tr.get d=Z (.ch (encI.flat us) b9 0 s)/\Tree.Zs us n
def adJ(q:cy h){name:ByteArray}{p r:Int}(u:mm h B bs)(E:kg bs)(h0:0<Y bs):aY FF 85 [eU ⟨aC name p r B⟩] h (akI h (Y bs)):=by
 have x:=ae.len u;have z:=E.len;have k:roomy (Y bs)=cd:=by simp[roomy];omega
 have f:roomy (Y bs*8)=cd:=by simp[roomy];omega
 have o:=Gv E h0;have⟨n,H⟩:=agY E h0;refine aY.of Qg ?_;unfold Fy;simp[aC];refine bm.cut (λh1=>az aV h h1/\h1.tr.get h.ax=Z (.ch (aC name p r B) b9 0 0)) ⟨(az.refl q).new _ _,by simp[aC]⟩ ?_;rintro h1⟨b,g⟩;have l:=g;simp[aC] at l;refine bm.call (V:=λv m=>az aV h1 m/\∃L:SV,v=L.v/\bx encI h1.ax m L.v (wg bs).reverse) (by simpa [aC] using EX b.ok (name:=name) (p:=p) (r:=r) (u.mono q b) E h0) ?_;rintro _ g⟨a,L,rfl,t⟩;rw[Rw] at t;rcases t with⟨e,_⟩|⟨d3,D,e,t,_,j⟩
 .have:Y (nI (dU bs))=0:=by rw[e];rfl
  simp[nI] at this;rw[this] at H;simp at H
 have j:Y (nI (dU bs))=Y (dU bs):=by simp[nI]
 rw[j] at e;rw[e];have j:=a.get b.ok l;have i:jG [aL ef 0] (Y bs)=encI.flat (an (Y bs) (0:Int)):=RF encI (0:Int) rfl _;have X:=a.ok.bU j;simp[j,x,k,f,i,X,bh,aD j,-ay];refine bm.cut (λI=>az aV g I/\(c_ I g.ax (encI.flat (an (Y bs) (0:Int))))/\(c_ I (g.ax+1) [dC ef (-1)])/\g.ax+1<I.ax) ?_ ?_
 exact⟨((az.refl a.ok).new _ _).new _ _,⟨0,ag⟩,⟨0,ag⟩,ag⟩;rintro I⟨N,⟨w,f⟩,⟨k,k⟩,X⟩;have X:=N.get a.ok j;refine bm.call (V:=λv m=>az aV I m/\∃d s,v=c6 (Z ⟨d,0,K⟩) (Y bs) (Y bs)/\I.ax<=d/\m.tr.get d=Z (.ch (encI.flat (an (Y bs) (-1:Int))) b9 0 s)) (ak (Mu N.ok (Y bs) J (x:= -1) k)) ?_;rintro _ k⟨F,d5,k,rfl,k,i⟩;have O:=(N.trans F).get a.ok t;have k:=F.get N.ok f;have f:=(a.ok.bU t).lt;simp;refine aiB F.ok o n z O k ag J ag ag ag ag ?_;rintro j t uC k f⟨M,hA6⟩ om P;have A:=f.get F.ok i (aw a.ok);have S:=f.get F.ok O J;have i:az aV h t:=(((b.trans a).trans N).trans F).trans' f aj (λT hx e=>aw ((b.trans a).ax));have y:bX j 5=c6 (Z ⟨d5,0,K⟩) (Y bs) (Y bs):=k.at ag;have C:cg j 1 h.ax:=k.at ag;have U:bX j 3=c6 (Z ⟨d3,0,K⟩) (Y (dU bs)) (Y (dU bs)):=k.at ag;have k4:bX j 4=c6 (Z ⟨g.ax,0,K⟩) (Y bs) (Y bs):=k.at ag;have k:=f.get F.ok (F.get N.ok X) (by have:=a.ax;have:=(b.ok.bU l).lt;omega);have f:(1:Nat)<=Y bs:=h0;have j:=i.ok.bU k;have j:¬h.ax=d5:=by have:=(b.ok.bU l).lt;have:=a.ax;omega
 simp[y,h0,A,C,f,cw j,aD k,-ay,x];have k:=tA (an (Y bs) (-1)) 0 0 (ak h0);refine bm.cut (λf=>az (· =d5) t f/\c_ f d5 (encI.flat ((an (Y bs) (-1:Int)).set 0 0))) ?_ ?_
 exact⟨aX i.ok A,t.clock,by rw[bc,k]⟩;rintro f⟨l,k,t⟩;have A:=l.get i.ok S J;have S:=l.get i.ok hA6 J;have G:az aV h f:=i.trans' l aj (λT hx e=>aw ((b.trans a).ax));refine bm.call (V:=λv m=>az aV f m/\∃d ws,v=c6 (Z ⟨d,0,K⟩) (Y bs) (Y bs)/\jm encI f.ax m d ws (Edge.dm (cx bs))) (by simpa [aC,x] using kS G.ok (name:=name) (p:=p) (r:=r) (u.mono q G) E) ?_;rintro _ T⟨i,d8,ws,rfl,l⟩;have u:=i.get G.ok t;have x:=i.get G.ok A;have q:=i.get G.ok S;have A:=(G.ok.bU t).lt;have W:TS h T (Y bs) (dU bs) uC ((an (Y bs) (-1:Int)).set 0 0) (Edge.dm (cx bs)) d3 g.ax d5 d8 f.ax ws:=
  ⟨G.trans i,aw ((b.trans a).ax),⟨D,x⟩,⟨M,q⟩,⟨k,u⟩,l,A,J,J⟩
 have c:TC (Y bs) (dU bs) uC (Edge.dm (cx bs)):=⟨o,z,om,P,Z0 E,Ps E h0,n⟩;simp;refine Vd W c H ⟨av U,av k4,av y,ag⟩ ag ?_;rintro y l us V E A z U;obtain⟨y,y⟩:=E.hU;have P:1<=Y us:=by rw[z.len];exact h0
 have u:=tA us 0 (-1) J;simp[U.f5,h0,y,P];refine⟨E.g.put ⟨_,y⟩ (fc E.n5),d5,us.set 0 (-1),l.clock,Q,E.n5,by rw[bc,u],Tree.auS o A.1 z n⟩
def eD(x:GI):List (Bool×Int):=(if(dP x.op).2.1 then [x.a] else [])++((if(dP x.op).2.2 then [x.b] else [])++x.args)
def jw(x:GI)(A:SV):List aa:=aQ x.op x.dst x.a.1 x.a.2 x.b.1 x.b.2 x.fn A.v
def PN(h:aB)(x:GI)(A:SV):aY FF 132 [eU ⟨jw x A⟩] h (λv m=>v=.func (.func 192) #[] #[dB (Z ⟨h.ax,0,K⟩)]/\m=aM h (jw x A) 0):=by refine aY.of S8 ?_;unfold Il;simp[jw,aQ]
def My(i:cy h1){l p:Nat}{c b:aG}{Kp ZE:aB->Prop}(m:¬S l)(f:h1.tr.get l=Z (.loop e [p] c b .ready))(H:aN FF c (Tr.set e p v) h1 (λx d I=>x=.normal/\az aV h1 I/\∀O,az (· =l) I O->aN FF b d O (λx _ a=>az S O a/\((x=.normal/\Kp a)\/(x=.ret/\ZE a)))))(g:∀a w,Kp a->cy a->az (· =l) a w->Kp w)(j:∀a w,ZE a->cy a->az (· =l) a w->ZE w):dQ FF (.func (.yield l) #[] #[]) [v] h1 (λr w=>az (λx=>S x\/x=l) h1 w/\((r=dd cd/\w.tr.get l=Z (.loop e [p] c b .ready)/\Kp w)\/(r=dd b9/\w.tr.get l=Z (.loop e [p] c b (.done K))/\ZE w))):=by
 refine dQ.yield f (by simp[fW];rfl) ?_;refine H.mono ?_;rintro x d I⟨rfl,d,k⟩;have r:=d.get i f;refine⟨Q,r,?_⟩;have N:=mu d.ok r e [p] c b .busy;refine(k _ N).mono ?_;rintro x r a⟨F,r⟩;have D:=F.get N.ok (sy I l e [p] c b .busy) m;have G:∀f,az (λx=>S x\/x=l) h1 (gm a l e [p] c b f):=λf=>
  ((d.cr.trans' N aj (λ_ _ h=>ft h)).trans' F aj (λ_ _ h=>fc h)).trans' (mu F.ok D e [p] c b f) aj (λ_ _ h=>ft h)
 rcases r with⟨rfl,r⟩|⟨rfl,f⟩;exact⟨⟨_,_,_,_,D,Q,Q,Q,Q⟩,G _,fc ⟨Q,sy _ _ _ _ _ _ _,g _ _ r F.ok (mu F.ok D e [p] c b .ready)⟩⟩;exact⟨⟨_,_,_,_,D,Q,Q,Q,Q⟩,G _,ft ⟨Q,sy _ _ _ _ _ _ _,j _ _ f F.ok (mu F.ok D e [p] c b (.done K))⟩⟩
def YQ(S:Nat->Prop)(B:Nat)(c d:aB->Prop)(a:aB)(r:aa)(m:aB):Prop:=az (λb=>S b\/B<=b) a m/\((r=dd cd/\c m)\/(r=dd b9/\d m))
def V1I(x:GI)(A:SV)(y:aa)(X B:Nat)(k:Nat)(I:Nat->Nat->aB->Prop)(m:Nat)(e:Env)(a:aB):Prop:=
 ∃j:Nat,m=Y x.args-j/\j<=Y x.args/\bX e 0=y/\bX e 30=A.v/\bz e 31 (Y x.args)/\bz e 32 j/\B<=a.ax/\I B (k+j) a
def MV(W:cy h0){x:GI}(l:ae vR 2 h0 A.v x.args)(q:Y x.args<2000000){y:aa}(I:Nat->Nat->aB->Prop)(S:Nat->Prop)(q:aB->Prop)(U:∀B j a,I B j a->az aV h0 a/\c_ a X (jw x A))(JF:∀B j a i,I B j a->az aV a i->I B j i)(hS:∀b,S b->b<h.ax)(H:∀B j v a,(eD x)[j]?=Z v->B<=a.ax->h.ax<B->I B j a->dQ FF y [eU ⟨[dd v.1,dC ef v.2]⟩] a (YQ S B (I B (j+1)) q a))(z:az aV h0 h)(g:c_ h X (jw x A))(T:∀h1,az aV h h1->I h1.ax 0 h1):aY FF 192 [y,dB (Z ⟨X,0,K⟩)] h (λ_ m=>(∃B,I B (Y (eD x)) m)\/q m):=by
 have u:=ae.len l;have⟨s0,g⟩:=g;have L:=g;simp[jw,aQ] at L;have C:=(z.ok.bU g).lt;refine aY.of Nx ?_;unfold DB;simp[L];refine bm.call (ak (IZ h z.ok x.op)) ?_;rintro _ h1⟨rfl,g⟩;have C:=g.get z.ok L;have L:=g.ok.bU C;have z:=g.ax;have z:∀(B k:Nat)(o:aB)(e:Env)(f:bJ->Env->aB->Prop),bX e 0=y->bX e 30=A.v->bz e 31 (Y x.args)->bz e 32 0->B<=o.ax->h.ax<B->(∀j,j<=Y x.args->(eD x)[k+j]?=x.args[j]?)->k+Y x.args=Y (eD x)->I B k o->(∀r m,(∃B,I B (Y (eD x)) m)\/q m->f (.exit 0) r m/\f .ret r m)->aN FF (.loop tN) e o f:=by
  intro B k o e f o d G f P Sq hv hk V t;refine aN.loop (V1I x A y X B k I) ?_ (n:=Y x.args) ⟨0,Q,J,o,d,G,f,P,V⟩;rintro V V V⟨j,rfl,hj,o,d,G,f,P,P⟩;unfold tN;obtain⟨p,n,n⟩:=U _ _ _ P;by_cases n:j<Y x.args
  .have M:x.args[j]?=Z x.args[j]:=iK n;generalize x.args[j]=v at M;obtain⟨E,E,c,E,_,_,rfl,oT,cV⟩:=ae.later W l M;have l:=cV V p 0 2 ai;simp[-ay] at l;have O:=d;simp at O;rw[E,u] at O;have W:=bZ ((j:Int)+1) J J;simp[o,O,G,f,n,l,-ay,aJ];refine bm.cut (λd=>az aV V d) ((az.refl p.ok).var _ _) ?_;intro d p;have l:=p.ax;refine bm.fB (V:=YQ S B (I B (k+j+1)) q d) (by simpa [o] using H B (k+j) v d (by rw[hv j hj,M]) J Sq (JF _ _ _ _ P p)) ?_;rintro M p⟨d,h|h⟩
   obtain⟨rfl,p⟩:=h;simp[f,W];exact⟨Y x.args-(j+1),J,j+1,Q,n,av o,by simp[O,E,u],by simp[G],ag,aw d.ax,by simpa [DJ] using p⟩;obtain⟨rfl,o⟩:=h;simp;exact(t _ _ (ft o)).2
  .have:j=Y x.args:=J
   subst this;simp[G,f];exact(t _ _ (fc ⟨B,by rw[<-hk];exact P⟩)).1
 have P:∀B j a,I B j a->c_ a X [dC ef x.op,dC ef x.dst,dd x.a.1,dC ef x.a.2,dd x.b.1,dC ef x.b.2,dC ef x.fn,A.v]:=by intro B j a f;have⟨_,s,e⟩:=U _ _ _ f;exact⟨s,by simpa [jw,aQ] using e⟩
 cases f:(dP x.op).2.1;cases d:(dP x.op).2.2;simp[C,L];refine aN.cut (λa=>az aV h1 a/\h1.ax<a.ax) ⟨(az.refl g.ok).var _ _,ag⟩ ?_;rintro a⟨n,t⟩;refine z a.ax 0 a _ _ ag ag (av u) ag (fE _) J (λj _=>?_) ?_ (T a (g.trans n)) (λr m p=>ak p);simp[eD,f,d];simp[eD,f,d];simp[C,L];refine bm.cut (λa=>az aV h1 a/\h1.ax<a.ax) ⟨(az.refl g.ok).var _ _,ag⟩ ?_;rintro a⟨n,t⟩;refine bm.fB (V:=YQ S a.ax (I a.ax 1) q a) (ak (H a.ax 0 x.b a (by simp[eD,f,d]) (fE _) J (T a (g.trans n)))) ?_;rintro M i⟨E,⟨rfl,t⟩|⟨rfl,o⟩⟩;have⟨D,l⟩:=P _ _ _ t;simp at l;simp[l];refine z a.ax 1 i _ _ ag ag (av u) ag E.ax J (λj _=>?_) ?_ t (λr m p=>ak p);simp[eD,f,d,ik 1 j];simp[eD,f,d];omega;simp;exact ft o
 .simp[C,L];refine bm.cut (λa=>az aV h1 a/\(c_ a h1.ax [dd (dP x.op).1,dd cd,dd (dP x.op).2.2])) ⟨(az.refl g.ok).var _ _,h1.clock,ag⟩ ?_;rintro a⟨n,F,L⟩;have C:=n.ok.bU L;have U:=C.lt;refine bm.fB (V:=YQ S a.ax (I a.ax 1) q a) (ak (H a.ax 0 x.a a (by simp[eD,f]) (fE _) J (T a (g.trans n)))) ?_;rintro M i⟨E,⟨rfl,t⟩|⟨rfl,o⟩⟩
  .have N:=E.get n.ok L (by rintro(h|h);exact absurd (hS _ h) J;omega);have⟨D,l⟩:=P _ _ _ t;have L:=E.ax;cases d:(dP x.op).2.2
   rw[d] at N;simp at l;simp[N,l];refine z a.ax 1 i _ _ ag ag (av u) ag J J (λj _=>?_) ?_ t (λr m p=>ak p);simp[eD,f,d,ik 1 j];simp[eD,f,d];omega;rw[d] at N;simp at l;simp[N,l];refine bm.fB (V:=YQ S a.ax (I a.ax 2) q i) (ak (H a.ax 1 x.b i (by simp[eD,f,d]) L J t)) ?_;rintro M i⟨L,⟨rfl,t⟩|⟨rfl,o⟩⟩;have⟨w,M⟩:=P _ _ _ t;simp at M;simp[M];refine z a.ax 2 i _ _ ag ag (av u) ag (aw L.ax) J (λj _=>?_) ?_ t (λr m p=>ak p);simp[eD,f,d,ik 2 j];simp[eD,f,d];omega;simp;exact ft o
  simp;exact ft o
def JU(h:aB)(v:aa)(m:aB):Prop:=az aV h m/\∃t:Bool,v=dd t
def axB(h:aB)(n d:Nat)(D:Nat->Nat)(a:Int)(m:Nat)(e:Env)(w:aB):Prop:=
 bX e 0=c6 (Z ⟨d,0,K⟩) n n/\bz e 1 a/\az aV h w/\((∃x:Nat,x<n/\m=D x+1/\bz e 2 x)\/(m=0/\bz e 2 (-1)))
def Zh(M:cy h)(A:n<1000000)(X:h.tr.get d=Z (.ch (encI.flat us) a o s))(U:Tree.Zs us n)(T:Int)(O:b<n):aY FF 211 [c6 (Z ⟨d,0,K⟩) n n,dC ef T,dC ef b] h (JU h):=by
 obtain⟨z,z,_,L⟩:=U;refine aY.of Ta ?_;unfold Im;simp;refine aN.loop (axB h n d z T) ?_ (n:=z b+1) ⟨ag,ag,.refl M,fc ⟨b,O,Q,ag⟩⟩;rintro m e g⟨I,F,D,l⟩;unfold DP;rcases l with⟨x,g,rfl,H⟩|⟨rfl,H⟩
 .by_cases G:(x:Int)=T
  .have w:((x:Int) !=T)=b9:=ak G
   simp[F,H,w];exact⟨D,_,Q⟩
  .have w:((x:Int) !=T)=cd:=ak G
   have V:=D.get M X;have⟨v,N⟩:=aR us x;have p:=nj V N;simp[I,F,H,w,g,p,-ay];rcases L x v N with rfl|⟨y,rfl,P,x⟩
   exact⟨0,J,av I,av F,D,ft ⟨Q,ag⟩⟩;exact⟨z y+1,J,av I,av F,D,fc ⟨y,P,Q,ag⟩⟩
 simp[F,H];exact⟨D,_,Q⟩
def F6(name:ByteArray)(p r:Int)(B U W:SV):List aa:=[eT name,dC ef p,dC ef r,B.v,U.v,W.v]
def ag9{ws:List (Int×Int)}(w:h.tr.get W=Z (.ch (x5.flat ws) a o s)){x:Int×Int}(b:ws[k]?=Z x):∀i m,i+m<=2->cC h W (k*2+i) m=Z (((x5.enc x).drop i).take m):=by intro i m D;have F:=(cR.mp b).1;have:=x5.rm ws k i m x b (ak D);rw[fm w (by rw[x5.eN];simp;omega)];simp only[aiT] at this;rw[this]
def ahA(ws:List (Int×Int))(i:Nat)(x:Int×Int)(h:i<Y ws):bg (x5.flat ws) (i*2) [dC ef x.1,dC ef x.2]=x5.flat (ws.set i x):=by have:=x5.tz ws i x h;simpa using this
section
variable{name:ByteArray}{p r:Int}{B U:SV}
def WrQ(h:aB)(W n k:Nat)(ws:List (Int×Int))(v:aa)(m:aB):Prop:=∃t:Bool,v=dd t/\az (· =W) h m/\∃a s,m.tr.get W=Z (.ch (x5.flat a) b9 0 s)/\Y a=n/\(t=cd->(∃w,ws[k]?=Z w/\w.1<0)/\(∃x,a[k]?=Z x/\0<=x.1)/\∀r,r≠k->a[r]?=ws[r]?)
def ZM(I:cy h){ws:List (Int×Int)}(a:dR h C (F6 name p r B U ⟨Z ⟨W,0,K⟩,n,wc⟩) H)(D:dR h W (x5.flat ws) F)(c:Y ws=n)(d:k<n){i:Int}(f:0<=i)(j:Int):aY FF 149 [dB (Z ⟨C,0,K⟩),dC ef k,dC ef i,dC ef j] h (WrQ h W n k ws):=by
 refine aY.of CY ?_;unfold tY;simp[F6] at a;have⟨w,G⟩:=aR ws k;have b:=ag9 D G 0 1 ai;simp[-ay] at b;by_cases h0:0<=w.1
 simp[a,d,b,h0,-ay,aD a];exact⟨_,Q,.refl I,ws,F,D,c,λe=>by cases e⟩
 .have N:=ahA ws k (i,j) J;have g:k*2+2<=Y ws*2:=J
  simp[a,d,b,h0,-ay,aD a,D,g];exact⟨_,Q,aX I D,ws.set k (i,j),h.clock,by rw[bc,N],av c,λ_=>⟨⟨w,G,J⟩,⟨(i,j),List.getElem?_set_self J,f⟩,λr O=>List.getElem?_set_ne (a7 O)⟩⟩
def Yn(c:cy h){C W n wc H F D d b l:Nat}{m:Bool}{ws:List (Int×Int)}(O:dR h C (F6 name p r B ⟨Z ⟨d,0,K⟩,b,b⟩ ⟨Z ⟨W,0,K⟩,n,wc⟩) H)(f:dR h W (x5.flat ws) F)(g:Y ws=n)(g:h.tr.get d=Z (.ch (encI.flat us) m l D))(m:Tree.Zs us b)(s:b<1000000){v:Bool×Int}(l:v.1=cd->0<=v.2/\v.2<n)(q:i<b)(j:Int):aY FF 150 [dB (Z ⟨C,0,K⟩),eU ⟨[dd v.1,dC ef v.2]⟩,dC ef i,dC ef j] h (JU h):=by
 refine aY.of CX ?_;unfold tX;have⟨b,k⟩:=v;cases b;simp;exact⟨(az.refl c).new _ _,_,Q⟩
 .have⟨h0,b⟩:=l rfl;dsimp only at h0 b;obtain⟨k,rfl⟩:∃b:Nat,k=b:=⟨k.toNat,J⟩;have l:k<n:=J
  have⟨b,o⟩:=aR ws k;have u:=c.bU O;have x:=c.bU f;have e:=ag9 f o 0 2 ai;have G:=O;simp[F6] at G;simp[-ay] at e;simp[G,u,x,e,l,bh,dO,aD G,aK,aJ,-ay];refine aN.cut (λe=>az aV h e/\c_ e (h.ax+1) [dC ef b.1,dC ef b.2]) ?_ ?_
  refine⟨?_,?_⟩;exact((az.refl c).new _ _).tick.var _ _;exact⟨_,bc _ _ _ _ _ _⟩;rintro e⟨a,w,N⟩;have l:=a.get c G;have x:=a.get c g;by_cases c:b.1<0
  simp[N,c];exact⟨a,_,Q⟩
  .by_cases f:b.1=(i:Int);simp[N,c,f];exact⟨a,_,Q⟩
   .have I:(b.1==(i:Int))=b9:=ak f
    have f:0<=b.1:=J
    simp[N,c,f,I,l];refine ck.call (V:=JU (tick e)) (ak (Zh (h:=tick e) a.tick.ok s x m b.1 q)) ?_;rintro _ q⟨q,t,rfl⟩;simp;exact⟨a.tick.trans q,_,Q⟩
end
def TX(t:Bool)(DS:List Int)(ws:List (Int×Int)):Prop:=t=cd->DS.Nodup/\∀r∈DS,0<=r/\∃x,ws[r.toNat]?=Z x/\0<=x.1
def TX.nil(t:Bool)(ws:List (Int×Int)):TX t [] ws:=λ_=>⟨.nil,λr h=>by cases h⟩
def TX.step{t c:Bool}{DS:List Int}{ws I:List (Int×Int)}{k:Nat}(w:TX t DS ws)(H:c=cd->(∃w,ws[k]?=Z w/\w.1<0)/\(∃x,I[k]?=Z x/\0<=x.1)/\∀r,r≠k->I[r]?=ws[r]?):TX (c&&t) (DS++[(k:Int)]) I:=by
 intro e;simp only[pU] at e;obtain⟨⟨x,g,x⟩,⟨y,P,f⟩,d⟩:=H e.1;have⟨n1,c⟩:=w e.2;have x:(k:Int)∉DS:=λD=>by have⟨_,z,G,F⟩:=c _ D;simp only[Xn] at G;rw[g] at G;cases G;omega
 refine⟨List.nodup_append.2 ⟨n1,ag,λa N b O e=>?_⟩,λr D=>?_⟩;simp only[br] at O;exact x (O▸e▸N);rcases jL.1 D with D|D;have⟨h0,z,G,F⟩:=c r D;refine⟨h0,z,?_,F⟩;rw[d];exact G;intro e;exact x (by rw[<-e,Int.toNat_of_nonneg h0];exact D);simp only[br] at D;subst D;exact⟨J,y,ak P,f⟩
structure SC(h0 h:aB)(C W n wc:Nat)(name:ByteArray)(p r:Int)(B U:SV)(t:Bool)(DS:List Int):Prop where
 g:az aV h0 h
 n0:h0.ax<=W
 ne:C≠W
 hC:c_ h C (F6 name p r B U ⟨Z ⟨W,0,K⟩,n,wc⟩)
 hW:∃ws s,h.tr.get W=Z (.ch (x5.flat ws) b9 0 s)/\Y ws=n/\TX t DS ws
def SC.cr{p r:Int}(w:SC h0 h C W n wc name p r B U t DS)(g:az aV h m):SC h0 m C W n wc name p r B U t DS:=by have⟨H,h1⟩:=w.hC;have⟨ws,F,D,a⟩:=w.hW;exact⟨w.g.trans g,w.n0,w.ne,⟨H,g.get w.g.ok h1⟩,ws,F,g.get w.g.ok D,a⟩
def SC.cX{p r:Int}(w:SC h0 h C W n wc name p r B U t DS):SC h0 h C W n wc name p r B U t' []:=by have⟨ws,s,a,b,_⟩:=w.hW;exact⟨w.g,w.n0,w.ne,w.hC,ws,s,a,b,TX.nil _ _⟩
def SC.wr{p r:Int}{DS a:List Int}(w:SC h0 h C W n wc name p r B U t DS)(g:az (· =W) h m)(D:∃ws s,m.tr.get W=Z (.ch (x5.flat ws) b9 0 s)/\Y ws=n/\TX t' a ws):SC h0 m C W n wc name p r B U t' a:=by have⟨H,h1⟩:=w.hC;exact⟨w.g.trans' g aj (λx F e=>aw w.n0),w.n0,w.ne,⟨H,g.get w.g.ok h1 w.ne⟩,D⟩
section
variable{h0:aB}{C W n wc:Nat}{name:ByteArray}{p r:Int}{B U:SV}
def WrS(h0 h:aB)(C W n wc:Nat)(name:ByteArray)(p r:Int)(B U:SV)(a:Bool)(DS:List Int)(k:Int)(v:aa)(m:aB):Prop:=∃t:Bool,v=dd t/\SC h0 m C W n wc name p r B U (t&&a) (DS++[k])/\az (· =W) h m
def Nf{a:Bool}(w:SC h0 h C W n wc name p r B U a DS){k:Int}(g:0<=k/\k<n){i:Int}(O:0<=i)(j:Int):aY FF 149 [dB (Z ⟨C,0,K⟩),dC ef k,dC ef i,dC ef j] h (WrS h0 h C W n wc name p r B U a DS k):=by
 have⟨H,h1⟩:=w.hC;have⟨ws,F,P,G,q⟩:=w.hW;obtain⟨k,rfl⟩:∃N:Nat,k=N:=⟨k.toNat,J⟩;refine(ZM w.g.ok h1 P G (k:=k) J O j).mono ?_;rintro v m⟨t,e,g,z,D,I,b,M⟩;exact⟨t,e,w.wr g ⟨z,D,I,b,q.step M⟩,g⟩
def ax1(h0 h:aB)(C W n wc:Nat)(name:ByteArray)(p r:Int)(B U:SV)(T:Nat)(b:Nat)(a:Env)(m:aB):Prop:=
 ∃(j:Nat) (t:Bool),b=T-j/\j<=T/\cg a 0 C/\bz a 15 T/\bz a 16 j/\bX a 3=dd t/\SC h0 m C W n wc name p r B U t []/\az (· =W) h m
def Oi(w:SC h0 h C W n wc name p r B U tt [])(u:T<=n)(z:n<1000000)(q:cg e 0 C)(i:bz e 15 T)(H:bz e 16 0)(O:∃t:Bool,bX e 3=dd t)(l:∀F m t,SC h0 m C W n wc name p r B U t []->az (· =W) h m->cg F 0 C->bX F 3=dd t->I (.exit 0) F m):aN FF (.loop jX) e h I:=by
 have⟨s,O⟩:=O;refine aN.loop (ax1 h0 h C W n wc name p r B U T) ?_ (n:=T) ⟨0,s,Q,J,q,i,H,O,w.cX,.refl w.g.ok⟩;rintro y F m⟨j,t,rfl,v,a,D,G,b,c,N⟩;unfold jX;by_cases o:j<T;have d:=bZ ((j:Int)+1) J J;simp[a,D,G,o];refine bm.call (V:=WrS h0 m C W n wc name p r B U t [] j) (ak (Nf c (k:=j) J (Int.le_refl 0) (-1))) ?_;rintro _ x⟨k,rfl,g,f⟩;cases k;simp[G,d,b];exact⟨T-(j+1),J,j+1,b9,Q,J,av a,av D,ag,ag,g.cX,N.trans f⟩;simp[G,d,b];exact⟨T-(j+1),J,j+1,t,Q,J,av a,av D,ag,ag,g.cX,N.trans f⟩
 .have:j=T:=J
  subst this;simp[D,G];exact l _ _ t c N (av a) (av b)
def axZ(h0 h:aB)(C W n wc:Nat)(name:ByteArray)(p r:Int)(B U:SV)(DS:List Int)(ps:List GP)(k:Nat)(e:Env)(b:Nat)(a:Env)(m:aB):Prop:=
 ∃(j:Nat) (t:Bool),b=k-j/\j<=k/\aH [41,42,43,8,44,45,46,47,48,49,50,51,3,52,40] e a/\bz a 40 j/\bX a 3=dd t/\SC h0 m C W n wc name p r B U t (DS++(ps.take j).map (·.dst))/\az (· =W) h m
def VV(k:cy h0)(w:SC h0 h C W n wc name p r B U tt DS){P:SV}{ps:List GP}(s:ae (pR h0) 2 h0 P.v ps)(L:∀q∈ps,0<=q.dst/\q.dst<n)(b:Y ps<1000000)(M:cg e 0 C)(E:bz e 5 i)(N:bX e 38=P.v)(b:bz e 39 (Y ps))(T:bz e 40 0)(g:bX e 3=dd tt)(f:∀G m t,SC h0 m C W n wc name p r B U t (DS++ps.map (·.dst))->az (· =W) h m->aH [41,42,43,8,44,45,46,47,48,49,50,51,3,52,40] e G->bX G 3=dd t->I (.exit 4) G m):aN FF (.loop jW) e h I:=by
 have X:=ae.len s;refine aN.loop (axZ h0 h C W n wc name p r B U DS ps (Y ps) e) ?_ (n:=Y ps) ⟨0,tt,Q,J,aH.refl _ _,T,g,ak w,.refl w.g.ok⟩;rintro V G m⟨j,t,rfl,g,D,H,O,a,x⟩;have d:=D.at M;have y:=D.at E;have T:=D.at N;have F:=D.at b;unfold jW;by_cases z:j<Y ps
 .have S:=bZ ((j:Int)+1) J J;have l:ps[j]?=Z ps[j]:=iK z;have E:=IB z;generalize ps[j]=q at l E;obtain⟨v,g,c,v,_,_,⟨A,rfl,u⟩,_,b⟩:=ae.later k s l;have o:=b m a.g 0 2 ai;simp[-ay] at o;simp at T;rw[v,X] at T;simp[d,y,T,F,H,z,o,-ay,aJ];refine bm.cut (λh1=>az aV m h1) ((az.refl a.g.ok).var _ _) ?_;intro h1 g;refine bm.call (V:=WrS h0 h1 C W n wc name p r B U t (DS++(ps.take j).map (·.dst)) q.dst) (ak (Nf (a.cr g) (L q E) (i:=i) J (-1))) ?_;rintro _ b⟨M,rfl,d,s⟩;have k:(ps.take (j+1)).map (·.dst)=(ps.take j).map (·.dst)++[q.dst]:=by rw[mw,l];simp
  rw[KN,<-k] at d;cases M
  .simp[H,S,O];refine⟨Y ps-(j+1),J,j+1,b9,Q,J,?_,ag,ag,d,(x.trans g.cr).trans s⟩
   exact au
  .simp[H,S,O];refine⟨Y ps-(j+1),J,j+1,t,Q,J,?_,ag,ag,d,(x.trans g.cr).trans s⟩
   exact au
 .have:j=Y ps:=J
  subst this;simp[F,H];rw[mI] at a;exact f _ _ t a x (D.set) (av O)
def Az(a:List GI):List Int:=(a.filter λx=>decide (0<=x.dst)).map (·.dst)
def Xb{b:List GI}{x:GI}(h:b[j]?=Z x)(a:0<=x.dst):Az (b.take (j+1))=Az (b.take j)++[x.dst]:=by unfold Az;rw[mw,h];simp[a]
def Xa{b:List GI}{x:GI}(h:b[j]?=Z x)(a:x.dst<0):Az (b.take (j+1))=Az (b.take j):=by unfold Az;rw[mw,h];simp;omega
def FX(b:GB):List Int:=b.aP.map (·.dst)++Az b.list
def axY(h0 h:aB)(C W n wc:Nat)(name:ByteArray)(p r:Int)(B U:SV)(DS:List Int)(b:List GI)(k:Nat)(e:Env)(c:Nat)(a:Env)(m:aB):Prop:=
 ∃(j:Nat) (t:Bool),c=k-j/\j<=k/\aH [57,58,59,60,10,9,61,62,63,64,65,66,67,68,69,70,71,72,73,74,3,75,56] e a/\bz a 56 j/\bX a 3=dd t/\SC h0 m C W n wc name p r B U t (DS++Az (b.take j))/\az (· =W) h m
def VU(P:cy h0)(w:SC h0 h C W n wc name p r B U tt DS){T:List GI}(k:ae (iR h0) 8 h0 L.v T)(v:∀x∈T,x.dst<n)(b:Y T<1000000)(M:cg e 0 C)(y:bz e 5 i)(b:bX e 54=L.v)(g:bz e 55 (Y T))(l:bz e 56 0)(s:bX e 3=dd tt)(V:∀z m t,SC h0 m C W n wc name p r B U t (DS++Az T)->az (· =W) h m->aH [57,58,59,60,10,9,61,62,63,64,65,66,67,68,69,70,71,72,73,74,3,75,56] e z->bX z 3=dd t->I (.exit 6) z m):aN FF (.loop jV) e h I:=by
 have q:=ae.len k;refine aN.loop (axY h0 h C W n wc name p r B U DS T (Y T) e) ?_ (n:=Y T) ⟨0,tt,Q,J,aH.refl _ _,l,s,by simpa [Az] using w,.refl w.g.ok⟩;rintro f z m⟨j,t,rfl,d,H,a,N,F,O⟩;have s:=H.at M;have f:=H.at y;have D:=H.at b;have G:=H.at g;unfold jV;by_cases d:j<Y T
 .have y:=bZ ((j:Int)+1) J J;have b:T[j]?=Z T[j]:=iK d;have E:=IB d;generalize T[j]=x at b E;obtain⟨z,l,c,S,_,_,⟨A,rfl,u⟩,_,l⟩:=ae.later P k b;have o:=l m F.g 0 8 ai;simp[aQ,-ay] at o;simp at D;rw[S,q] at D;have z:az aV m (put (aM m [dC ef 0,dC ef 0,dd b9,dC ef 0,dd b9,dC ef 0,dC ef 0,c6 K 0 0] 0) m.ax 0 [dC ef 0,dC ef 0,dd b9,dC ef 0,dd b9,dC ef 0,dC ef 0,c6 K 0 0] [dC ef x.op,dC ef x.dst,dd x.a.1,dC ef x.a.2,dd x.b.1,dC ef x.b.2,dC ef x.fn,c6 A.a A.l A.c] 0):=(az.refl F.g.ok).var _ _;by_cases g:x.dst<0
  .rw[<-Xa b g] at F;simp[s,f,D,G,a,d,o,-ay,aJ,g,y,N];refine⟨Y T-(j+1),J,j+1,t,Q,J,?_,ag,ag,F.cr z,O.trans z.cr⟩
   exact au
  .simp[s,f,D,G,a,d,o,-ay,aJ,g];refine bm.cut (λh1=>az aV m h1) z ?_;intro h1 g;refine bm.call (V:=WrS h0 h1 C W n wc name p r B U t (DS++Az (T.take j)) x.dst) (ak (Nf (F.cr g) ⟨J,v x E⟩ (i:=i) J j)) ?_;rintro _ E⟨M,rfl,d,s⟩;rw[KN,<-Xb b J] at d;cases M
   .simp[a,y,N];refine⟨Y T-(j+1),J,j+1,b9,Q,J,?_,ag,ag,d,(O.trans g.cr).trans s⟩
    exact au
   .simp[a,y,N];refine⟨Y T-(j+1),J,j+1,t,Q,J,?_,ag,ag,d,(O.trans g.cr).trans s⟩
    exact au
 .have:j=Y T:=J
  subst this;simp[G,a];rw[mI] at F;exact V _ _ t F O (H.set) (av N)
def ax0(h0 h:aB)(C W n wc:Nat)(name:ByteArray)(p r:Int)(B U:SV)(bs:List GB)(k:Nat)(b:Nat)(a:Env)(m:aB):Prop:=
 ∃(j:Nat) (t:Bool),b=k-j/\j<=k/\cg a 0 C/\bX a 30=B.v/\bz a 31 k/\bz a 32 j/\bX a 3=dd t/\SC h0 m C W n wc name p r B U t ((bs.take j).flatMap FX)/\az (· =W) h m
def aqT(h0 h:aB)(C W n wc:Nat)(name:ByteArray)(p r:Int)(B U:SV)(bs:List GB)(v:aa)(m:aB):Prop:=∃t:Bool,v=dd t/\SC h0 m C W n wc name p r B U t (bs.flatMap FX)/\az (· =W) h m
structure Wx(n:Nat)(bs:List GB):Prop where
 len:Y bs<1000000
 ph:∀b∈bs,Y b.aP<1000000/\∀q∈b.aP,0<=q.dst/\q.dst<n
 li:∀b∈bs,Y b.list<1000000/\∀x∈b.list,x.dst<n
def VT(b:cy h0)(A:mm h0 B bs)(k:Wx n bs)(w:SC h0 h C W n wc name p r B U tt [])(z:p=T)(u:T<=n)(E:n<1000000):aY FF 88 [dB (Z ⟨C,0,K⟩)] h (aqT h0 h C W n wc name p r B U bs):=by
 have i:=ae.len A;have M:=k.len;have⟨H,g⟩:=w.hC;simp[F6] at g;refine aY.of BE ?_;unfold sk;simp[g];refine Oi w u E ag (av z) ag ⟨cd,ag⟩ ?_;intro s h1 M o E I N;have⟨F,u⟩:=o.hC;simp[F6] at u;simp[I,u];refine aN.loop (ax0 h0 h C W n wc name p r B U bs (Y bs)) ?_ (n:=Y bs) ⟨0,M,Q,J,av I,ag,av i,ag,av N,ak o,E⟩;rintro e X m⟨j,t,rfl,g,I,a,o,G,N,v,S⟩;unfold qa;by_cases g:j<Y bs
 .have s:=bZ ((j:Int)+1) J J;have l:bs[j]?=Z bs[j]:=iK g;have M:=IB g;generalize bs[j]=x at l M;obtain⟨e,X,c,e,_,_,⟨P,L,V,rfl,z,q,d⟩,_,d⟩:=ae.later b A l;have f:=d m v.g 0 6 ai;simp[-ay] at f;simp at a;rw[e,i] at a;have X:=ae.len z;have kA:=ae.len q;simp[I,a,o,G,g,f,-ay,aJ];refine aN.cut (λh1=>az aV m h1/\c_ h1 m.ax [P.v,L.v,dC ef x.kind,dd x.on.1,dC ef x.on.2,V.v]) ⟨(az.refl v.g.ok).var _ _,_,bc _ _ _ _ _ _⟩ ?_;rintro g⟨g,D,f⟩;have d:W<m.ax:=by have⟨_,_,d,_⟩:=v.hW;exact v.g.ok.wf _ _ d
  refine VV b (v.cr g) z (k.ph x M).2 (k.ph x M).1 (i:=j) (av I) ag ag (av X) ag (av N) ?_;intro X A u d y z A;have u:=y.get g.ok f J;simp at u;have k6:cg X 6 m.ax:=z.at ag;have E:=z.at (t:=0) (aq I);have V:bX X 5=dC ef j:=z.at ag;have f:=z.at (t:=30) (aq a);have X:=z.at (t:=31) (aq o);have k32:=z.at (t:=32) (aq G);simp[k6,u];refine VU b d q (k.li x M).2 (k.li x M).1 (i:=j) (av E) (av V) ag (av kA) ag (av A) ?_;intro k u q z b O M;have k:(bs.take (j+1)).flatMap FX=((bs.take j).flatMap FX++x.aP.map (·.dst))++Az x.list:=by rw[mw,l];simp[FX,KN]
  rw[<-k] at z;have u:=O.at (t:=0) (aq E);have E:=O.at (t:=30) (aq f);have l:=O.at (t:=31) (aq X);have V:=O.at (t:=32) (aq k32);simp[V,s];exact⟨Y bs-(j+1),J,j+1,q,Q,J,av u,by simp[E,e,i],av l,ag,av M,z,((S.trans g.cr).trans y).trans b⟩
 .have:j=Y bs:=J
  subst this;simp[o,G,N];rw[mI] at v;exact⟨_,Q,v,S⟩
end
structure UF(h0 h1:aB)(C W n wc d nb Pb R:Nat)(name:ByteArray)(p r:Int)(B:SV):Prop where
 g:az aV h0 h1
 hC:c_ h1 C (F6 name p r B ⟨Z ⟨d,0,K⟩,nb,nb⟩ ⟨Z ⟨W,0,K⟩,n,wc⟩)
 hW:∃ws s,h1.tr.get W=Z (.ch (x5.flat ws) b9 0 s)/\Y ws=n
 hd:∃us s,h1.tr.get d=Z (.ch (encI.flat us) b9 0 s)/\Tree.Zs us nb
 hP:c_ h1 Pb [dB (Z ⟨C,0,K⟩)]
 hR:c_ h1 R [dd b9]
 nR:h0.ax<=R
 nb:nb<1000000
 n:n<1000000
def UF.cr{h0 h1 e:aB}{C W n wc d c f R:Nat}{p r:Int}(b:UF h0 h1 C W n wc d c f R name p r B)(g:az aV h1 e):UF h0 e C W n wc d c f R name p r B:=by have⟨H,c⟩:=b.hC;have⟨ws,F,r,f⟩:=b.hW;have⟨us,D,I,G⟩:=b.hd;have⟨w,p⟩:=b.hP;have⟨N,O⟩:=b.hR;have a:=b.g.ok;exact⟨b.g.trans g,⟨H,g.get a c⟩,⟨ws,F,g.get a r,f⟩,⟨us,D,g.get a I,G⟩,⟨w,g.get a p⟩,⟨N,g.get a O⟩,b.nR,b.nb,b.n⟩
section
variable{h0:aB}{C W n wc d f y R:Nat}{name:ByteArray}{p r:Int}{B:SV}
def Dy(n:Nat)(v:Bool×Int):Prop:=v.1=cd->0<=v.2/\v.2<n
def LA(w:UF h0 h C W n wc d f y R name p r B){v:Bool×Int}(b:Dy n v)(c:i<f)(j:Int):aY FF 150 [dB (Z ⟨C,0,K⟩),eU ⟨[dd v.1,dC ef v.2]⟩,dC ef i,dC ef j] h (JU h):=by
 have⟨H,g⟩:=w.hC;have⟨ws,F,I,G⟩:=w.hW;have⟨us,D,e,a⟩:=w.hd;exact Yn w.g.ok g I G e a w.nb b c j
def aeH(h0:aB)(R:Nat)(a:Env)(m:aB):Prop:=az aV h0 m/\(∃t s,m.tr.get R=Z (.ch [dd t] b9 0 s))/\cg a 2 R
def WK:aG:=.ops [⟨(Z 13),K,(.alloc va)⟩,⟨K,K,(.store 2 (.tmp 13) (.tmp 79))⟩]
def Kg:aG:=(P_ 9 (G_ [l_ 80 1,L_ 81 2 13,l_ 82 4,l_ 83 11,F_ 84 150 [t_ 80,t_ 81,t_ 82,t_ 83],o_ 85 (.un .not (t_ 84))] (I_ 85 (G_ [u_ (.store 1 (t_ 2) (b_ b9))] .ret) .skip)))
def ZU(h0:aB)(R:Nat)(m:aB):Prop:=az aV h0 m/\∃t s,m.tr.get R=Z (.ch [dd t] b9 0 s)
def OP(f:cy h)(e:Env)(ps:List Nat)(c d:aG):az aV h (h.new (.loop e ps c d .ready))/\(h.new (.loop e ps c d .ready)).tr.get h.ax=Z (.loop e ps c d .ready):=by refine⟨⟨hQ _,fE _,λb O _=>KO _ O,⟨λb w O=>?_,λb D a d s O=>?_⟩⟩,by simp[aB.new,Tr.bS]⟩;simp only[aB.new,Tr.bS] at O⊢;by_cases e:b=h.ax;omega;rw[bM e] at O;exact sW (f.wf b w O);simp only[aB.new,Tr.bS] at O⊢;by_cases e:b=h.ax;rw[bH e] at O;cases O;rw[bM e] at O;exact f.st b D a d s O
def adN{a:aB}(g:cy h0)(F:UF h0 a C W n wc d f y R name p r B){X I4 q i j w S:Nat}{x:GI}(l:c_ a X (jw x A))(z:ae vR 2 h0 A.v x.args)(o:Y x.args<2000000)(P:∀v∈eD x,Dy n v)(T:dR a I4 [dC ef i] w)(U:dR a q [dC ef j] S)(hi:i<f)(S:cg e 1 y)(E:cg e 2 R)(f4:cg e 4 I4)(f11:cg e 11 q)(c:bX e 78=.func (.func 192) #[] #[dB (Z ⟨X,0,K⟩)])(M:∀m,aeH h0 R e m->I .ret e m)(V:∀m,az aV a m->I .normal e m):aN FF (.RO (.tmp 78) [79] WK Kg) e a I:=by
 have pd:=F.g.ok;have⟨u,l⟩:=l;have⟨q,L⟩:=OP pd e [79] WK Kg;have sO:(a.new (.loop e [79] WK Kg .ready)).ax=a.ax+1:=Q;refine aN.RO (first:= #[]) (caps:= #[dB (Z ⟨X,0,K⟩)]) (ak c) ?_;generalize a.new (.loop e [79] WK Kg .ready)=hL at*;have c:=(pd.bU l).lt;obtain⟨c,c⟩:=F.hR;have lR:=(pd.bU c).lt;have H:=MV (h:=hL) g z o (X:=X) (y:=.func (.yield a.ax) #[] #[]) (λ_ _ c=>az aV a c/\c.tr.get a.ax=Z (.loop e [79] WK Kg .ready)) (λb=>b=R\/b=a.ax) (λm=>m.tr.get a.ax=Z (.loop e [79] WK Kg (.done K))/\ZU h0 R m)
  (λ_ _ c N=>⟨F.g.trans N.1,u,N.1.get pd l⟩) (λ_ _ c o N g=>⟨N.1.trans g,g.get N.1.ok N.2⟩) (by rintro b (rfl|rfl)<;>omega) ?_ (F.g.trans q) ⟨u,q.get pd l⟩ (λh1 g=>⟨q.trans g,g.get q.ok L⟩)
 refine aY.mono (ak H) ?_;rintro v m (⟨g,q⟩|⟨q,D,l⟩);unfold zI;rw[q];refine V _ (g.trans' (kT g.ok a.ax) aj (λx u e=>J));unfold zI;rw[q];refine M _ ⟨D.trans' (kT D.ok a.ax) aj (λx u e=>aw F.g.ax),?_,E⟩;have⟨t,s,l⟩:=l;exact⟨t,s,(kT D.ok a.ax).get D.ok l J⟩
 .rintro l k v c q l l⟨l,L⟩;have hvv:=P v (cK q);refine(My (S:=(· =R)) (Kp:=λm=>az aV a m) (ZE:=ZU h0 R) l.ok J L ?_ ?_ ?_).mono ?_
  .unfold WK;simp;have z:az aV c (put (aM c [dd b9,dC ef 0] 0) c.ax 0 [dd b9,dC ef 0] [dd v.1,dC ef v.2] 0):=(az.refl l.ok).var _ _;have hV:(put (aM c [dd b9,dC ef 0] 0) c.ax 0 [dd b9,dC ef 0] [dd v.1,dC ef v.2] 0).tr.get c.ax=Z (.ch [dd v.1,dC ef v.2] b9 0 c.clock):=ag
   generalize put (aM c [dd b9,dC ef 0] 0) c.ax 0 [dd b9,dC ef 0] [dd v.1,dC ef v.2] 0=o at*;refine⟨z,λq M=>?_⟩;have O:az aV a q:=(l.trans z).trans' M aj (λx u e=>J);have o:=F.cr O;have⟨P,hP4⟩:=o.hP;obtain⟨P,P⟩:=o.hR;have V:=O.get pd T;have T:=O.get pd U;have U:=l.ax;have U:a.ax<c.ax:=l.ok.wf _ _ L;have l:=M.get z.ok hV J;unfold Kg;simp[S,E,f4,f11,hP4,V,T,l];refine bm.call (V:=JU q) (ak (LA o hvv hi j)) ?_;rintro _ l⟨G,t,rfl⟩;cases t
   have z:=G.get O.ok P;simp[E,z];exact⟨G.cr.trans (aX G.ok z),(o.g.trans G).put ⟨_,z⟩ (fc F.nR),b9,l.clock,ag⟩;simp;exact⟨G.cr,O.trans G⟩
  intro q l z _ g;exact z.trans' g aj (λx u e=>J);rintro q l⟨q,t,s,z⟩ _ g;exact⟨q.trans' g aj (λx u e=>aw F.g.ax),t,s,g.get q.ok z J⟩;rintro r l⟨G,⟨rfl,l,z⟩|⟨rfl,l,q⟩⟩;exact⟨G.cX (λ_ _ h=>fc h),fc ⟨Q,z,l⟩⟩;exact⟨G.cX (λ_ _ h=>fc h),ft ⟨Q,l,q⟩⟩
end
section
variable{h0:aB}{C W n wc d f x R:Nat}{name:ByteArray}{p r:Int}{B:SV}
def axU(h:aB)(k:Nat)(e:Env)(b:Nat)(a:Env)(m:aB):Prop:=
 ∃j:Nat,b=k-j/\j<=k/\aH [8,9,10,40,41,42,43,44,45,46,47,48,49,50,51,52,53,54,55,56,57,58,59,60,61,62,63,64,65,66,67] e a/\bz a 40 j/\az aV h m
def ahN(U:cy h0)(F:UF h0 h C W n wc d f x R name p r B)(L:mm h0 B bs)(hbn:Y bs=f)(okx:cy P)(X:az aV P h)(N:ae (RV P) 1 P AH.v ah)(rw:Hd f ah){row:List (Bool×Int)}(c:ae vR 2 h0 A.v row)(hv:∀v∈row,Dy n v)(k:Y row<1000000)(k:ah[i]?=Z ps)(u:Y row=Y ps)(hI:dR h I4 [dC ef i] w)(u:cg e 1 x)(o:cg e 2 R)(E:bX e 3=AH.v)(q:cg e 4 I4)(V:bX e 38=A.v)(l:bz e 39 (Y row))(s:bz e 40 0)(ret:∀b m,aeH h0 R b m->I .ret b m)(Kp:∀b m,az aV h m->aH [8,9,10,40,41,42,43,44,45,46,47,48,49,50,51,52,53,54,55,56,57,58,59,60,61,62,63,64,65,66,67] e b->I (.exit 4) b m):aN FF (.loop kZ) e h I:=by
 have pD:=ae.len c;have ayP:=ae.len N;have dq:=ae.len L;have z:=F.g.ok;have az1:i<f:=by have:=(cR.mp k).1;have:=rw.len;omega
 refine aN.loop (axU h (Y row) e) ?_ (n:=Y row) ⟨0,Q,J,aH.refl _ _,s,.refl z⟩;rintro s b m⟨j,rfl,s,H,s,g⟩;have D:=F.cr g;have q1:=H.at u;have u:=H.at o;have o:=H.at E;have q4:=H.at q;have q:=H.at V;have V:=H.at l;unfold kZ;by_cases l:j<Y row
 .have wj:=bZ ((j:Int)+1) J J;have b:row[j]?=Z row[j]:=iK l;have E:=IB l;generalize row[j]=v at b E;obtain⟨M,M,M,DK,_,_,rfl,_,M⟩:=ae.later U c b;have T:=M m D.g 0 2 ai;obtain⟨b2,c,M,ayO,_,_,⟨S,rfl,M⟩,o2,y⟩:=ae.later okx N k;have G:=X.trans g;have r2:∀b,az aV P b->cC b b2 (c+i) 1=Z [c6 S.a S.l S.c]:=λb c=>by have:=y b c 0 1 ai;simpa [-ay] using this
  have hSl:=ae.len M;have y:ps[j]?=Z ps[j]:=iK J;have O:=IB (l:=ps) (n:=j) J;generalize ps[j]'J=a at y O;obtain⟨X,X⟩:=(rw.row i ps k).2 a O;obtain⟨a,rfl⟩:∃k:Nat,a=k:=⟨a.toNat,J⟩;have X:a<f:=J
  obtain⟨k,aBU,c3,hSa,_,_,rfl,o3,ant⟩:=ae.later okx M y;have r3:∀b,az aV P b->cC b k (aBU+j) 1=Z [dC ef a]:=λb c=>by have:=ant b c 0 1 ai;simpa [-ay] using this
  have⟨k,M⟩:=aR bs a;obtain⟨b4,y,k,dY,_,_,⟨k,k,T4,rfl,sP4,sL4,sT4⟩,o4,Q0⟩:=ae.later U L M;have r4:∀b,az aV h0 b->cC b b4 (y+a*6+1) 1=Z [c6 k.a k.l k.c]:=λb c=>by have:=Q0 b c 1 1 ai;simpa [-ay] using this
  simp[-ay] at T;simp at q o;rw[DK,pD] at q;rw[ayO,ayP] at o;have dW:i<Y ah:=by rw[rw.len];exact az1
  have y:=g.get z hI;have oI:=D.g.ok.bU y;have⟨z,b⟩:=D.hP;obtain⟨z,z⟩:=D.hC;have c:=z;simp[F6] at c;have M:=D.g.ok.bU b;have oC:=D.g.ok.bU z;have U:=G.bU o2;have ob3:=G.bU o3;have L:=D.g.bU o4;have z:=r2 m G;have r3':=r3 m G;have r4':=r4 m D.g;have hjp:j<Y ps:=J
  rw[hSl,hSa] at z;rw[dY,dq,hbn] at c;simp[q1,u,o,q4,q,V,s,l,T,dW,-ay,aJ,cw,bh,aD y,oI,M,oC,U,ob3,L,z,r3',r4',hjp,aK,aD b,aD c,c,b,X];refine ck.cut (λb=>az aV m b) ?_ ?_;exact((az.refl D.g.ok).var _ _).tick;intro b y;have c:=D.cr y;refine ck.call (V:=JU b) (ak (LA c (hv v E) X k.l)) ?_;rintro _ b⟨k,t,rfl⟩;cases t
  obtain⟨E,E⟩:=(c.cr k).hR;have X:=(c.g.trans k);simp[u,E];exact ret _ _ ⟨X.put ⟨_,E⟩ (fc F.nR),⟨b9,b.clock,ag⟩,av u⟩
  .simp[s,wj];refine⟨Y row-(j+1),J,j+1,Q,J,?_,ag,(g.trans y).trans k⟩
   exact au
 .have:j=Y row:=J
  subst this;simp[V,s];exact Kp _ _ g (H.set)
def axV(h:aB)(k:Nat)(e:Env)(b:Nat)(a:Env)(m:aB):Prop:=
 ∃j:Nat,b=k-j/\j<=k/\aH [7,33,34,35,36,37,38,39,68,8,9,10,40,41,42,43,44,45,46,47,48,49,50,51,52,53,54,55,56,57,58,59,60,61,62,63,64,65,66,67] e a/\bz a 33 j/\az aV h m
def aH.cX{l a:List Nat}{e b:Env}(c:aH l e b)(h:∀t∈l,t∈a:=by decide):aH a e b:=λt w=>c t (λm=>w (h t m))
def adM(k:cy h0)(F:UF h0 h C W n wc d f x R name p r B)(hB:mm h0 B bs)(hbn:Y bs=f)(okx:cy P)(gx:az aV P h)(Q1:ae (RV P) 1 P AH.v ah)(rw:Hd f ah)(b:ah[i]?=Z ps)(hI:dR h I4 [dC ef i] w){y:SV}{a:List GP}(z:ae (pR h0) 2 h0 y.v a)(T:Y a<1000000)(o:∀q∈a,Y q.row=Y ps/\∀v∈q.row,Dy n v)(U:cg e 1 x)(u:cg e 2 R)(L:bX e 3=AH.v)(E:cg e 4 I4)(N:bX e 31=y.v)(M:bz e 32 (Y a))(c:bz e 33 0)(ret:∀H m,aeH h0 R H m->I .ret H m)(X:∀H m,az aV h m->aH [7,33,34,35,36,37,38,39,68,8,9,10,40,41,42,43,44,45,46,47,48,49,50,51,52,53,54,55,56,57,58,59,60,61,62,63,64,65,66,67] e H->I (.exit 2) H m):aN FF (.loop lf) e h I:=by
 have T:=ae.len z;have S:=F.g.ok;refine aN.loop (axV h (Y a) e) ?_ (n:=Y a) ⟨0,Q,J,aH.refl _ _,c,.refl S⟩;rintro c H m⟨j,rfl,c,D,G,g⟩;have O:=F.cr g;have l:=D.at U;have q2:=D.at u;have q3:=D.at L;have q4:=D.at E;have t:=D.at N;have V:=D.at M;unfold lf;by_cases y:j<Y a
 .have c:=bZ ((j:Int)+1) J J;have s:a[j]?=Z a[j]:=iK y;have L:=IB y;generalize a[j]=q at s L;have⟨hql,ZE⟩:=o q L;obtain⟨o,M,o,U,_,_,⟨A,rfl,o⟩,_,M⟩:=ae.later k z s;have E:=M m O.g 0 2 ai;have s:=ae.len o;have:=(rw.row i ps b).1;simp[-ay] at E;simp at t;rw[U,T] at t;simp[t,V,G,y,E,-ay,aJ];refine aN.cut (λh1=>az aV m h1) ((az.refl O.g.ok).var _ _) ?_;intro u u;have y:=O.cr u;have z:=g.trans u;refine ahN k y hB hbn okx (gx.trans z) Q1 rw o ZE J b hql (z.get S hI) (av l) (av q2) (av q3) (av q4) ag (av s) ag ?_ ?_
  intro S u L;simp;exact ret _ _ L
  .intro S u l b;have s:=b.at (t:=33) (aq G);simp[s,c];refine⟨Y a-(j+1),J,j+1,Q,J,?_,ag,z.trans l⟩;refine aH.set (aH.set (aH.trans ?_ (b.cX)))
   exact au
 .have:j=Y a:=J
  subst this;simp[V,G];exact X _ _ g (D.set)
end
section
variable{h0:aB}{C W n wc d f y R:Nat}{name:ByteArray}{p r:Int}{B:SV}
def axT(h:aB)(k:Nat)(e:Env)(b:Nat)(a:Env)(m:aB):Prop:=
 ∃j:Nat,b=k-j/\j<=k/\aH [11,12,13,72,73,74,75,76,77,78,86] e a/\bz a 72 j/\az aV h m
def adL(z:cy h0)(F:UF h0 h C W n wc d f y R name p r B)(hi:i<f)(hI:dR h I4 [dC ef i] w){b:List GI}(M:ae (iR h0) 8 h0 L.v b)(JE:Y b<1000000)(fV:∀x∈b,Y x.args<2000000/\∀v∈eD x,Dy n v)(f1:cg e 1 y)(f2:cg e 2 R)(f4:cg e 4 I4)(J':bX e 70=L.v)(N:bz e 71 (Y b))(f72:bz e 72 0)(ret:∀G m,aeH h0 R G m->I .ret G m)(Kp:∀G m,az aV h m->aH [11,12,13,72,73,74,75,76,77,78,86] e G->I (.exit 6) G m):aN FF (.loop kY) e h I:=by
 have kA:=ae.len M;have U:=F.g.ok;refine aN.loop (axT h (Y b) e) ?_ (n:=Y b) ⟨0,Q,J,aH.refl _ _,f72,.refl U⟩;rintro m' G m⟨j,rfl,hj,D,c,g⟩;have o:=F.cr g;have q1:=D.at f1;have q2:=D.at f2;have q4:=D.at f4;have a:=D.at J';have E:=D.at N;unfold kY;by_cases l:j<Y b
 .have X:=bZ ((j:Int)+1) J J;have P:b[j]?=Z b[j]:=iK l;have S:=IB l;generalize b[j]=x at P S;have⟨Be,hv⟩:=fV x S;obtain⟨b1,acK,c1,hLa,_,_,⟨A,rfl,sA⟩,o1,HB⟩:=ae.later z M P;have u:=HB m o.g 0 8 ai;have ob1:=o.g.bU o1;simp[aQ,-ay] at u;simp at a;rw[hLa,kA] at a;simp[a,E,c,l,u,-ay,aJ,bh,cw,ob1];refine bm.cut (λh1=>az aV m h1/\c_ h1 m.ax [dC ef j]) ?_ ?_
  .refine⟨?_,⟨m.clock,ag⟩⟩
   repeat (first|exact .refl o.g.ok|apply az.new|refine az.put ?_ ag ag)
  rintro H⟨g5,s6,O⟩;have s:=g.trans g5;refine bm.call (V:=λv m=>v=.func (.func 192) #[] #[dB (Z ⟨H.ax,0,K⟩)]/\m=aM H (jw x A) 0) (by simpa [jw,aQ] using PN H x A) ?_;rintro _ T⟨rfl,k⟩;have t:az aV H T:=by rw[k];exact aZ s.ok _ _
  have qC:c_ T H.ax (jw x A):=⟨0,by rw[k];exact bY _ _ _⟩;clear k;have q:=s.trans t;have V:=t.get s.ok O;have hI6:=q.get U hI;simp;refine adN z (F.cr q) qC sA Be hv hI6 V hi (av q1) (av q2) (av q4) ag ag ?_ ?_
  intro h7 hr;simp;exact ret _ _ hr
  .intro h7 g7;simp[c,X];refine⟨Y b-(j+1),J,j+1,Q,J,?_,ag,q.trans g7⟩
   exact au
 .have:j=Y b:=J
  subst this;simp[E,c];exact Kp _ _ g (D.set)
structure WC(n:Nat)(ah:List (List Int))(bs:List GB):Prop where
 ph:∀(i:Nat) b,bs[i]?=Z b->Y b.aP<1000000/\∀ps,ah[i]?=Z ps->∀q∈b.aP,Y q.row=Y ps/\∀v∈q.row,Dy n v
 li:∀b∈bs,Y b.list<1000000/\∀x∈b.list,Y x.args<2000000/\∀v∈eD x,Dy n v
 on:∀b∈bs,Dy n b.on
def axW(h:aB)(C W n wc d f y R:Nat)(B AH:SV)(k:Nat)(b:Nat)(a:Env)(m:aB):Prop:=
 ∃j:Nat,b=k-j/\j<=k/\cg a 1 y/\cg a 2 R/\bX a 3=AH.v/\bX a 23=B.v/\bz a 24 k/\bz a 25 j/\az aV h m
def aeu(h:aB)(v:aa)(m:aB):Prop:=az aV h m/\∃t:Bool,v=dd t
def adK(k:cy h0)(U:mm h0 B bs)(E:kg bs)(h:Y bs=f)(O:WC n (Edge.dm (cx bs)) bs){ws:List (Int×Int)}(e:dR h0 C (F6 name p r B ⟨Z ⟨d,0,K⟩,f,f⟩ ⟨Z ⟨W,0,K⟩,n,wc⟩) H)(u:dR h0 W (x5.flat ws) F)(S:Y ws=n)(y:dR h0 d (encI.flat us) D)(z:Tree.Zs us f)(c:n<1000000):aY FF 89 [dB (Z ⟨C,0,K⟩)] h0 (aeu h0):=by
 have i:=ae.len U;have X:=E.len;have b:=Z0 E;rw[h] at b;have A:=k.bU e;have X:=e;simp[F6] at X;refine aY.of Ec ?_;unfold vo;simp[X,A];refine bm.cut (λh1=>UF h0 h1 C W n wc d f h0.ax (h0.ax+1) name p r B) ?_ ?_
 have g:az aV h0 (aM (aM h0 [dB (Z ⟨C,0,K⟩)] 0) [dd b9] 0):=((az.refl k).new _ _).new _ _;exact⟨g,⟨H,g.get k e⟩,⟨ws,F,g.get k u,S⟩,⟨us,D,g.get k y,z⟩,⟨0,ag⟩,⟨0,ag⟩,J,J,c⟩;intro h1 o;refine bm.call (V:=λv m=>az aV h1 m/\∃d ws,v=c6 (Z ⟨d,0,K⟩) (Y bs) (Y bs)/\jm encI h1.ax m d ws (Edge.dm (cx bs))) (by simpa [aC,i] using kS o.g.ok (name:=name) (p:=p) (r:=r) (U.mono k o.g) E) ?_;rintro _ E⟨M,d8,u,rfl,q⟩;have I:=o.cr M;have⟨c,u⟩:=I.hP;have⟨M,o⟩:=I.hC;simp[F6] at o;have A:=ZY (c:=Y bs) q;have y:Y (Edge.dm (cx bs))=Y bs:=by rw[Edge.iV];simp[cx]
 rw[y] at A;simp[u,o];refine aN.loop (axW E C W n wc d f h0.ax (h0.ax+1) B ⟨Z ⟨d8,0,K⟩,Y bs,Y bs⟩ (Y bs)) ?_ (n:=Y bs) ⟨0,Q,J,ag,ag,ag,ag,av i,ag,.refl I.g.ok⟩;rintro e X m⟨j,rfl,E,q1,V,S,w,u,q,g⟩;have z:=I.cr g;have ret:∀X m,aeH h0 (h0.ax+1) X m->Fm [.cell 2 K] (aeu h0) .ret X m:=by rintro X m⟨e,⟨t,s,E⟩,l⟩;simp[l,E];exact⟨e,t,Q⟩
 unfold te;by_cases y:j<Y bs
 .have wj:=bZ ((j:Int)+1) J J;have l:bs[j]?=Z bs[j]:=iK y;have o:=IB y;generalize bs[j]=x at l o;obtain⟨X,e,X,dY,_,_,⟨P,L,T,rfl,c,sL,M⟩,e,X⟩:=ae.later k U l;have M:=X m z.g 0 6 ai;have X:=z.g.bU e;have fe:=ae.len c;have kA:=ae.len sL;have⟨ps,e⟩:=aR (Edge.dm (cx bs)) j;have⟨aAE,aAF⟩:=O.ph j x l;have⟨aAf,aAg⟩:=O.li x o;simp[-ay] at M;simp at w;rw[dY,i] at w;simp[w,u,q,y,M,-ay,aJ,bh,cw,X];refine aN.cut (λh1=>az aV m h1/\(c_ h1 m.ax [dC ef j])/\c_ h1 (m.ax+1) [P.v,L.v,dC ef x.kind,dd x.on.1,dC ef x.on.2,T.v]) ?_ ?_
  .refine⟨?_,⟨m.clock,ag⟩,⟨m.clock+1,ag⟩⟩
   repeat (first|exact .refl z.g.ok|apply az.new|refine az.put ?_ ag ag)
  rintro M⟨y,⟨M,N⟩,X,M⟩;have X:=g.trans y;have F5:=I.cr X;refine adM k F5 U h I.g.ok X A b e N c aAE (aAF ps e) (av q1) (av V) (av S) ag ag (av fe) ag ?_ ?_
  intro A c E;simpa using ret _ _ E;intro A c b G;have Q1:=b.get X.ok N;have e:=b.get X.ok M;have k1:=G.at (t:=1) (aq q1);have X:=G.at (t:=2) (aq V);have k3:=G.at (t:=3) (aq S);have l:cg A 4 m.ax:=G.at ag;have U:cg A 5 (m.ax+1):=G.at ag;have k23:=G.at (t:=23) (aq w);have k24:=G.at (t:=24) (aq u);have k25:=G.at (t:=25) (aq q);simp at e;simp[U,e];have M:=F5.cr b;refine adL k M J Q1 sL aAf aAg (av k1) (av X) (av l) ag (av kA) ag ?_ ?_
  intro A h7 E;simpa using ret _ _ E;intro A h7 c h;have E:=c.get M.g.ok Q1;have Su:=c.get M.g.ok e;have S:=M.cr c;have⟨e,Ni⟩:=S.hP;have M:=h.at (t:=1) (aq k1);have k:=h.at (t:=2) (aq X);have m3:=h.at (t:=3) (aq k3);have X:cg A 4 m.ax:=h.at (aq l);have l:cg A 5 (m.ax+1):=h.at (aq U);have e:=h.at (t:=23) (aq k23);have m24:=h.at (t:=24) (aq k24);have A:=h.at (t:=25) (aq k25);simp[M,X,l,E,Su,Ni];refine bm.call (V:=JU h7) (ak (LA S (O.on x o) (i:=j) J L.l)) ?_;rintro _ U⟨U,t,rfl⟩;have E:=S.cr U;cases t
  have⟨X,a⟩:=E.hR;simp[k,a];exact⟨E.g.put ⟨_,a⟩ (fc E.nR),b9,Q⟩;simp[A,wj];exact⟨Y bs-(j+1),J,j+1,Q,J,av M,av k,av m3,by simp[e,dY,i],by simp[m24],ag,(((g.trans y).trans b).trans c).trans U⟩
 .have:j=Y bs:=J
  subst this;have⟨X,a⟩:=z.hR;simp[u,q,V,a];exact⟨z.g.put ⟨_,a⟩ (fc z.nR),cd,Q⟩
end
def Fk(bs:List GB):Prop:=Y bs<=Y (wg bs)
def aqh(bs:List GB)(h:aB)(v:aa)(m:aB):Prop:=az aV h m/\∃c:Int,v=dC ef c/\(c=0->Fk bs/\(bs.flatMap FX).Nodup)
def Qq(g:cy h){name:ByteArray}(i:mm h B bs)(E:kg bs)(h0:0<Y bs)(P:Wx n bs)(O:WC n (Edge.dm (cx bs)) bs)(M:T<=n)(l:n<1000000):aY FF 35 [eU ⟨aC name T n B⟩] h (aqh bs h):=by
 have u:=ae.len i;have j:=E.len;refine aY.of NB ?_;unfold DF;simp[aC];have j:az aV h (tick (aM h (aC name T n B) 0)):=(aZ g _ _).tick;refine ck.cut (λh1=>az aV h h1/\h1.tr.get h.ax=Z (.ch (aC name T n B) b9 0 0)/\h1.tr.get (h.ax+1)=Z (.ch [dC ef (-1),dC ef (-1)] b9 0 0)) ?_ ?_
 simp[aC] at j;exact⟨j.new _ _,by simp[aC],ag⟩;rintro h1⟨N,r,k⟩;refine ck.call (V:=akI h1 (Y bs)) (by simpa [aC] using adJ N.ok (name:=name) (p:=T) (r:=n) (i.mono g N) E h0) ?_;rintro _ j⟨c,o,us,F,rfl,p,p,S⟩;have f:=c.get N.ok r;simp[aC] at f;have I:=c.get N.ok k;simp[f,I];have H:=N.trans c;refine ck.call (V:=λv m=>az aV j m/\∃d s,v=c6 (Z ⟨d,0,K⟩) n n/\j.ax<=d/\m.tr.get d=Z (.ch (x5.flat (an n (-1,-1))) b9 0 s)) (ak (ahc H.ok n l (x:=(-1,-1)) I)) ?_;rintro _ c⟨j,W,D,rfl,k,r⟩;have G:=H.trans j;have k:=j.get H.ok f;have q:=j.get H.ok p;have f:=G.ok.bU k;simp[k,f];refine ck.cut (λf=>az aV c f/\c_ f c.ax (F6 name T n B ⟨Z ⟨o,0,K⟩,Y bs,Y bs⟩ ⟨Z ⟨W,0,K⟩,n,n⟩)) ?_ ?_
 exact⟨((az.refl G.ok).new _ _).tick,0,by simp[F6]⟩;rintro f⟨j,w,U⟩;have b:=G.trans j;have x:=j.get G.ok k;have A:=j.get G.ok r;have y:=j.get G.ok q;refine ck.call (V:=λv m=>az aV f m/\∃L:SV,v=L.v/\bx encI f.ax m L.v (wg bs)) (by simpa [aC] using Px b.ok (name:=name) (p:=T) (r:=n) (i.mono g b) E h0) ?_;rintro _ k⟨f,L,rfl,C⟩;have j:=b.trans f;have q:=f.get b.ok x;have z:=f.get b.ok A;have x:=f.get b.ok y;have y:=f.get b.ok U;have f:L.l=Y (wg bs):=by rcases C with⟨e,b⟩|⟨_,_,b,_⟩;simp at b;rw[e,b.2.1];rfl;simp at b;exact b.2.1
 have b:W<c.ax:=(G.ok.bU r).lt;by_cases b:Y (wg bs)<Y bs;simp[q,u,f,b];exact⟨j,5,Q,λh=>by cases h⟩
 .simp[q,u,f,b];have b:SC h k c.ax W n n name T n B ⟨Z ⟨o,0,K⟩,Y bs,Y bs⟩ cd []:=⟨j,aw H.ax,J,⟨w,y⟩,_,D,z,ag,TX.nil _ _⟩;refine bm.call (V:=aqT h k c.ax W n n name T n B ⟨Z ⟨o,0,K⟩,Y bs,Y bs⟩ bs) (ak (VT g i P b Q M l)) ?_;rintro _ M⟨t,rfl,a,b⟩;cases t
  simp;exact⟨a.g,7,Q,λh=>by cases h⟩
  .simp;have⟨P,k⟩:=a.hC;obtain⟨ws,P,o,P,c⟩:=a.hW;have z:=(H.ok.bU p).lt;have p:=b.get j.ok x J;refine bm.call (V:=aeu M) (ak (adK a.g.ok (i.mono g a.g) E Q O k o P p S l)) ?_;rintro _ l⟨l,t,rfl⟩;cases t
   simp;exact⟨a.g.trans l,6,Q,λh=>by cases h⟩;simp;exact⟨a.g.trans l,0,Q,λ_=>⟨by unfold Fk;omega,(c Q).1⟩⟩
def jz{b:GB}(h:b∈bs):Y b.aP+Y b.list<=dw bs:=by
 induction bs with
 |nil=>simp at h
 |cons x bs a=>
  simp only[dw];rcases List.mem_cons.1 h with rfl|h;omega;have:=a h;omega
def aaC{b:Int}{x:GI}(h:yG b x):x.dst= -1\/Bk b x.dst:=by have w:=h.form;unfold cO at w;cases D:(dP x.op).1;rw[D] at w;simp at w;exact fc w.1;by_cases a:x.op=20/\x.dst= -1;exact fc a.2;exact ft (h.dst D a)
def u3{b:Int}{x:GI}(h:yG b x):rZ b x.args/\Y x.args<=6:=by
 by_cases a:x.op=20;exact h.args a
 .have w:=h.form;unfold cO at w;have D:(x.op==20)=b9:=ak a
  rw[D] at w;simp at w;have:x.args=[]:=F7 (by have:=w.2.2.2.2;simp[this]);rw[this];exact⟨rZ.nil _,ag⟩
def Ur{a:Int}{x:GI}(h:yG a x):rZ a x.args:=(u3 h).1
def Hg{a:Int}{v:Bool×Int}(h:xj a v):Dy a.toNat v:=by intro h1;have:=h h1;omega
def agb{b:Int}{x:GI}(h:yG b x):∀v∈eD x,xj b v:=by intro v a;unfold eD at a;rcases jL.1 a with a|a;split at a;simp at a;subst a;exact h.a;cases a;rcases jL.1 a with a|a;split at a;simp at a;subst a;exact h.b;cases a;exact Ur h v a
structure gU(f:GF):Prop where
 head:DX f
 body:G9 f.aF f.blocks
 sm:∀b∈f.blocks,zJ b
def gU.ends{f:GF}(F:gU f):kg f.blocks:=F.body.ends.ends (aw F.head.blocks)
def gU.ays{f:GF}(F:gU f):Wx f.aF.toNat f.blocks:=by
 have O:=F.head.blocks;have H:=F.head.many;refine⟨J,λb O=>⟨aw (jz O),λq D=>?_⟩,λb O=>⟨aw (jz O),λx G=>?_⟩⟩
 have⟨i,a⟩:=iF O;have⟨_,l,_,w⟩:=(F.body.Ke i b a).aP q D;have:=w.dst;unfold Bk at this;omega
 .have⟨i,a⟩:=iF O;have I:=F.head.aF;have w:=F.head.params;rcases aaC ((F.body.Ke i b a).list x G) with h|h
  omega;unfold Bk at h;omega
def gU.VI{f:GF}(F:gU f):WC f.aF.toNat (Edge.dm (cx f.blocks)) f.blocks:=by
 have f:=F.head.many;refine⟨λi b O=>⟨aw (jz (cK O)),λps D q I=>?_⟩,λb O=>⟨aw (jz O),λx H=>?_⟩,λb O=>?_⟩;have⟨_,l,f,w⟩:=(F.body.Ke i b O).aP q I;rw[f] at D;cases D;exact⟨w.len,λv a=>Hg (w.row v a)⟩;have⟨i,G⟩:=iF O;have:=(u3 ((F.body.Ke i b G).list x H)).2;exact⟨J,λv a=>Hg (agb ((F.body.Ke i b G).list x H) v a)⟩
 intro h1;have:=(F.body.ends b O).on h1;omega
structure Dx(u:GU):Prop where
 unit:J2 u
 form:∀f∈u.funcs,gU f
 seen:∀f∈u.funcs,Fk f.blocks
 once:∀f∈u.funcs,(f.blocks.flatMap FX).Nodup
def Dx.of(U:J2 u)(w:Hf u)(S:∀f∈u.funcs,Fk f.blocks/\(f.blocks.flatMap FX).Nodup):Dx u:=⟨U,λf a=>⟨U.head f a,U.body f a,w.bs f a⟩,λf a=>(S f a).1,λf a=>(S f a).2⟩
def axJ(h0 h:aB)(R:Nat)(F:SV)(a:List GF)(b:Nat)(e:Env)(m:aB):Prop:=
 ∃j:Nat,b=Y a-j/\j<=Y a/\cg e 2 R/\bX e 14=F.v/\bz e 15 (Y a)/\bz e 16 j/\az aV h m/\∀f∈a.take j,Fk f.blocks/\(f.blocks.flatMap FX).Nodup
def IX(t:cy h)(s:Hh h){G F:SV}(i:uR h G F u)(k:Hf u):aY FF 13 [eU ⟨[G.v,F.v]⟩] h (zG (Dx u) h):=by
 have W:=ae.len i.2;refine aY.of Tb ?_;unfold Io;simp;refine bm.cut (λh1=>az aV h h1/\h1.tr.get h.ax=Z (.ch [G.v,F.v] b9 0 0)/\h1.tr.get (h.ax+1)=Z (.ch [dC ef 0,dC ef 0] b9 0 0)) ?_ ?_;exact⟨((az.refl t).new _ _).new _ _,ag,ag⟩;rintro h1⟨v,d,P⟩;refine bm.call (V:=zG (J2 u) h1) (ak (WQ v.ok (s.grow t v) (i.mono t v) k)) ?_;rintro _ M⟨w,c,a,rfl,I⟩;have f:=v.trans w;have r:=w.get v.ok d;have L:=w.get v.ok P;simp at r;have H:=w.ok.bU L;have n:=w.ok.bU r;rcases I with I|⟨rfl,rfl,N⟩
 .have v:(c==0)=b9:=ak I
  simp[v,L,H,aJ,-ay];refine⟨az.put (f.var _ _) ⟨0,?_⟩ (fc J),c,a,Q,fc I⟩;rw[KP,bM (aw H.lt),vS H,L]
 simp[r,n];refine aN.cut (λX=>az aV M X) ?_ ?_;exact(az.refl w.ok).var _ _;intro X V;have y:=f.trans V;have S:=N;refine aN.loop (axJ h X (h.ax+1) F u.funcs) ?_ (n:=Y u.funcs) ⟨0,Q,J,ag,ag,av W,ag,.refl y.ok,λf P=>by simp at P⟩;rintro q e m⟨j,rfl,x,M,b,z,r,g,v⟩;have C:=y.trans g;have y:=(V.trans g).get w.ok L;unfold DQ;by_cases p:j<Y u.funcs
 .have q:=bZ ((j:Int)+1) J (aw N.fn);have x:u.funcs[j]?=Z u.funcs[j]:=iK p;have d:=IB p;generalize u.funcs[j]=f at x d;have X:gU f:=⟨N.head f d,N.body f d,k.bs f d⟩;have A:=X.head;obtain⟨L,n,P,d,_,_,⟨B,rfl,L⟩,P,U⟩:=ae.later t i.2 x;have E:=U m C 0 4 ai;simp[-ay] at E;simp at b;rw[d,W] at b;have n:=A.params;have V:=A.aF;have⟨T,o⟩:∃T:Nat,f.params=T:=⟨f.params.toNat,J⟩;have⟨V,l⟩:∃V:Nat,f.aF=V:=⟨f.aF.toNat,J⟩;have D:=X.ays;have O:=X.VI;have U:f.aF.toNat=V:=J
  rw[U] at D O;simp[b,z,r,p,E,-ay,aJ];refine bm.cut (λh1=>az aV m h1) ((az.refl C.ok).var _ _) ?_;intro U n;have E:=C.trans n;rw[o,l];refine bm.call (V:=aqh f.blocks U) (by simpa [aC] using Qq E.ok (name:=f.name) (L.mono t E λ_ _ U=>U.mono t E) X.ends (aw A.blocks) D O J J) ?_;rintro _ P⟨i,c,rfl,I⟩;have s:=(n.trans i).get C.ok y;have f:=E.trans i;by_cases o:c=0
  subst o;simp[r,q];refine⟨Y u.funcs-(j+1),J,j+1,Q,J,av M,by simp[b,d,W],av z,ag,(g.trans n).trans i,λX t=>?_⟩;rw[mw,x] at t;rcases jL.1 t with h1|h1;exact v X h1;simp at h1;subst h1;exact I rfl
  .have W:(c !=0)=cd:=ak o
   simp[W,o];refine bm.call (ak (kP P f.ok c (j:Int))) ?_;rintro _ n⟨rfl,X⟩;have b:=X.get f.ok s;simp[M,b];exact⟨(f.trans X).put ⟨_,b⟩ (fc J),c,j,Q,fc o⟩
 .have:j=Y u.funcs:=J
  subst this;rw[mI] at v;simp[z,r,M,y];exact⟨C.put ⟨_,y⟩ (fc J),0,0,Q,ft ⟨Q,Q,Dx.of N k v⟩⟩
def eo{α:Type}(E:ly α)(h:aB)(A:SV)(c:List α):Prop:=
 A.l=Y c/\((A.a=K/\A.c=0/\c=[])\/∃b o s a,A.a=Z ⟨b,0,K⟩/\A.c=Y c+Y a/\h.tr.get b=Z (.ch (E.flat (c++a)) b9 o s)/\(o=0\/o=E.sz))
section
variable{α:Type}{E:ly α}{h m:aB}{A:SV}{f:List α}
def eo.len(w:eo E h A f):A.l=Y f:=w.1
def eo.nil(E:ly α)(h:aB):eo E h cU []:=⟨Q,fc ⟨Q,Q,Q⟩⟩
def fK(h:A.a=Z ⟨b,0,K⟩):bD A.v b:=⟨0,A.l,A.c,av h⟩
def D3{b a:Nat}(h:A.a=Z ⟨b,0,K⟩)(k:bD A.v a):a=b:=by have⟨c,n,w,e⟩:=k;simp[h] at e;exact e.1.1.symm
def FG(h:A.a=K)(k:bD A.v b):False:=by have⟨c,n,a,e⟩:=k;simp[h] at e
def eo.grow(w:eo E h A f)(D:cy h)(g:az S h m)(H:∀b,bD A.v b->¬S b):eo E m A f:=by have⟨F,w⟩:=w;refine⟨F,?_⟩;rcases w with w|⟨b,o,s,G,N,I,O,a⟩;exact fc w;exact ft ⟨b,o,s,G,N,I,g.get D O (H b (fK N)),a⟩
def eo.cr(w:eo E h A f)(a:cy h)(g:az aV h m):eo E m A f:=w.grow a g aj
def eo.sl(w:eo E h A f):bj E h A.v f:=by have⟨a,w⟩:=w;refine⟨A.a,A.c,av a,?_⟩;rcases w with⟨N,_,rfl⟩|⟨b,o,s,D,N,F,O,G⟩;exact fc ⟨Q,fc N⟩;refine ft ⟨b,0,_,_,_,_,N,O,?_,?_⟩;simp[qB];rw[qA,E.ij];simp
def eo.bU(w:eo E h A f)(a:cy h)(k:bD A.v b):b<h.ax:=by have⟨F,w⟩:=w;rcases w with⟨N,_⟩|⟨H,o,s,G,N,I,O,D⟩;exact(FG N k).elim;rw[D3 N k];exact a.wf _ _ O
def Vv(E:ly α)(b:List α)(i:Nat)(x y:α)(a:b[i]?=Z x)(k:Nat)(c:List aa)(F:k+Y c<=E.sz)(e:bg (E.enc x) k c=E.enc y):bg (E.flat b) (i*E.sz+k) c=E.flat (b.set i y):=by
 have w:=(cR.mp a).1;rw[List.set_eq_take_append_cons_drop,bH w,E.dX,E.iJ,<-e];unfold bg;have h1:(E.flat b).take (i*E.sz+k)=E.flat (b.take i)++(E.enc x).take k:=by rw[B7,E.ij];congr 1;rw[<-E.Cq b i x a,List.take_take,Nat.min_eq_left J]
 have D:(E.flat b).drop (i*E.sz+k+Y c)=(E.enc x).drop (k+Y c)++E.flat (b.drop (i+1)):=by rw[DJ,<-pa,E.mq,fj w,E.iJ,nV,(cR.mp a).2,E.len,show k+Y c-E.sz=0 by omega,qA]
 rw[h1,D];simp[KN]
def eo.el(w:eo E h A f){x:α}(g:f[i]?=Z x):∃b G o s,A.a=Z ⟨b,0,K⟩/\h.tr.get b=Z (.ch G b9 o s)/\i<A.l/\(∀k m,k+m<=E.sz->i*E.sz+k+m<=Y G)/\(∀k m,k+m<=E.sz->cC h b (i*E.sz+k) m=Z (((E.enc x).drop k).take m))/\∀y k D,k+Y D<=E.sz->bg (E.enc x) k D=E.enc y->∀h1:aB,(∃s,h1.tr.get b=Z (.ch (bg G (i*E.sz+k) D) b9 o s))->eo E h1 A (f.set i y):=by
 have⟨j,w⟩:=w;have c:=(cR.mp g).1;rcases w with⟨N,_,rfl⟩|⟨b,o,s,F,N,n,O,l⟩
 simp at c
 .have d:(f++F)[i]?=Z x:=by rw[Jf c];exact g
  have I:∀k m,k+m<=E.sz->i*E.sz+k+m<=Y (E.flat (f++F)):=by intro k m a;rw[E.eN,IA];have:(i+1)*E.sz<=(Y f+Y F)*E.sz:=Gd _ J;rw[qB] at this;omega
  refine⟨b,_,o,s,N,O,J,I,λk m a=>?_,λy k D y e h1 ⟨H,g⟩=>⟨ak j,ft ⟨b,o,H,F,N,ak n,?_,l⟩⟩⟩;rw[fm O (I k m a),E.rm _ _ _ _ _ d a];rw[g,Vv E _ _ _ _ d k D y e,Sy,bH c]
def Zu(E:ly α)(f a b:List α)(h:Y a<=Y b):bg (E.flat (f++b)) (Y f*E.sz) (E.flat a)=E.flat ((f++a)++b.drop (Y a)):=by unfold bg;rw[E.ij,E.eN,<-qB,E.mq];have:List.drop (Y f+Y a) f=[]:=Gb J;simp[nV,this]
def DZ{k:List α}(H:cy h)(F:Y z=E.sz)(w:eo E h A f)(S:bj E h v k)(d:Y f+Y k<2000000)(l:bytes<=1000):∃(T:SV) (m:aB),gi h z bytes b9 A.v v=Z (T.v,m)/\eo E m T (f++k)/\az (bD A.v) h m/\(∀b,bD T.v b->bD A.v b\/b=h.ax)/\(A.c=A.l->T.c=T.l):=by
 have M:=E.pos;have q:E.sz≠0:=J
 have G:=w.1;unfold gi;rw[CJ F S];dsimp only;rcases k with _|⟨y,k⟩
 .refine⟨A,h,?_,ak w,.refl H,λb O=>fc O,λh=>h⟩;have:A.l<=A.c:=by rcases w.2 with⟨_,g,rfl⟩|⟨_,_,_,a,_,g,_⟩;rw[G];simp;omega
  simp[dz,F,M,this]
 .have I:roomy (Y f+(Y k+1))=cd:=by simp[roomy];simp at d;omega
  have U:roomy ((Y f+(Y k+1))*bytes)=cd:=by have:(Y f+(Y k+1))*bytes<=2000000*1000:=Nat.mul_le_mul (by simp at d;omega) l;simp[roomy];omega
  have n:Y (E.flat (y::k))=(Y k+1)*E.sz:=by rw[E.eN,kb]
  have⟨D,p⟩:∃D,D=E.flat (y::k):=⟨_,Q⟩;rw[<-p] at n⊢;rcases w.2 with⟨N,x,rfl⟩|⟨b,o,s,a,N,x,O,L⟩;refine⟨⟨Z ⟨h.ax,0,K⟩,Y k+1,Y k+1⟩,aM h D E.sz,?_,⟨ag,ft ⟨h.ax,E.sz,0,[],Q,ag,?_,ft Q⟩⟩,(aZ H _ _).cr,λb O=>ft (D3 Q O),λ_=>rfl⟩;simp only[List.length_nil,Je] at I U G;simp[dz,F,M,I,U,N,x,G];rw[bY,p];simp
  .have g:(E.flat (f++a)).take (Y f*E.sz)=E.flat f:=by rw[E.ij];simp
   by_cases d:Y f+(Y k+1)<=A.c
   .have B:Y f*E.sz+(Y k+1)*E.sz<=(Y f+Y a)*E.sz:=by rw[<-qB];exact Gd _ J
    refine⟨⟨A.a,Y f+(Y k+1),A.c⟩,put h b (Y f*E.sz) (E.flat (f++a)) D o,?_,⟨ag,ft ⟨b,o,h.clock,a.drop (Y k+1),N,by simp;omega,?_,L⟩⟩,?_,?_,λh=>J⟩;simp[dz,F,M,I,U,N,G,d,O,n];have r:(Y k+1)*E.sz<=Y a*E.sz:=Gd _ J;rw[bH r]
    rw[bc,p,Zu E f (y::k) a (by simp;omega)];rfl;exact(aX H O).cX (λP _ e=>e▸fK N);intro V S;have:=D3 (A:=⟨A.a,Y f+(Y k+1),A.c⟩) N S;exact fc (this▸fK N)
   .have T:((E.flat (f++a)).drop 0).take (Y f*E.sz)=E.flat f:=by rw[qA,g]
    have i:E.flat f++D=E.flat (f++y::k++[]):=by rw[p,ye,E.dX]
    rcases L with rfl|rfl;refine⟨⟨Z ⟨h.ax,0,K⟩,Y f+(Y k+1),Y f+(Y k+1)⟩,aM h (E.flat f++D) E.sz,?_,⟨ag,ft ⟨h.ax,E.sz,0,[],Q,ag,?_,ft Q⟩⟩,(aZ H _ _).cr,λb O=>ft (D3 Q O),λ_=>rfl⟩;simp[dz,F,M,I,U,N,G,d,O,g];rw[bY,i]
    .refine⟨⟨Z ⟨h.ax,0,K⟩,Y f+(Y k+1),Y f+(Y k+1)⟩,aM {h with tr:=h.tr.del b} (E.flat f++D) E.sz,?_,⟨ag,ft ⟨h.ax,E.sz,0,[],Q,ag,?_,ft Q⟩⟩,?_,λb O=>ft (D3 Q O),λ_=>rfl⟩
     .have k:A.c*E.sz=(Y f+Y a)*E.sz:=by rw[x]
      simp[dz,F,M,I,U,N,G,d,O,g,q];intro V;have:Nat.beq (A.c*E.sz) (Y f*E.sz+Y a*E.sz)=cd:=by rw[k,qB];exact Nat.beq_refl _
      rw[this] at V;cases V
     have:=bY {h with tr:=h.tr.del b} (E.flat f++D) E.sz;rw[<-i];exact this;refine((kT H b).cX ?_).trans (aZ (kT H b).ok _ _).cr;rintro P _ rfl;exact fK N
end
def Oz(z:List aa)(bytes:Nat):aG:=(G_ [o_ 2 (.mv (.const (c6 K 0 0)))] (J_ (G_ [m_ 3 0,o_ 4 (.bin .eql [3] (t_ 3) (.const (c6 K 0 0)))] (I_ 4 (G_ [o_ 2 (.mv (.const (c6 K 0 0)))] .ret) .skip)) (G_ [o_ 5 (.fC 0 [] []),m_ 6 0,o_ 7 (.append z bytes b9 (t_ 5) (t_ 6)),m_ 2 7] .ret)))
def kG{α:Type}(E:ly α)(h:aB)(a:List α)(r:aa)(m:aB):Prop:=az aV h m/\∃w:SV,r=w.v/\eo E m w a/\(∀b,bD w.v b->h.ax<=b)/\w.c=w.l
def mo(E:ly α){f bytes:Nat}(g:FF f=Z ⟨[.tmp 2],Oz z bytes,.no⟩)(k:Y z=E.sz)(p:bytes<=1000)(I:cy h){v:SV}{c:List α}(d:bj E h v.v c)(j:Y c<2000000):aY FF f [v.v] h (kG E h c):=by
 have f:=E.pos;have f:v.l=Y c:=by have⟨i,G,e,_⟩:=d;simp at e;exact e.2.1
 refine aY.of g ?_;unfold Oz;rcases N:v.a with _|g
 .have g:c=[]:=by have⟨i,G,e,w⟩:=d;simp[N] at e;rcases w with w|⟨b,c,c,a,o,c,c,_⟩;exact w.1;rw[c] at e;simp at e
  subst g;simp[N];exact⟨.refl I,cU,Q,eo.nil E h,λb O=>(FG Q O).elim,Q⟩
 .have c:=aZ I [] 0;have l:eo E (aM h [] 0) ⟨Z ⟨h.ax,0,K⟩,0,0⟩ ([]:List α):=⟨Q,ft ⟨h.ax,0,0,[],Q,Q,bY _ _ _,fc Q⟩⟩;have⟨E,m,H,i,n,D,F⟩:=DZ (bytes:=bytes) c.ok k l (d.cr I c) (ak j) p;have p:=H;simp[N,f] at H;simp[N,f];refine df H ?_;simp;refine⟨c.trans' n aj (λx g e=>aw (D3 Q e)),E,ag,ak i,λb O=>?_,F Q⟩;rcases D b O with h|h
  rw[D3 Q h];exact fE _;rw[h];simp
structure XI where
 op:Int
 dst:Int
 a:Bool×Int
 b:Bool×Int
 fn:Int
 args:SV
structure XR where
 P:SV
 L:SV
 T:SV
 kind:Int
 on:Bool×Int
 ps:List (Int×SV)
 ls:List XI
 ts:List Int
def cH:ly (Bool×Int):=⟨λx=>[dd x.1,dC ef x.2],2,λ_=>rfl,ai,λ_=>rfl⟩
@[simp] def uK:cH.sz=2:=rfl
@[simp] def BO(x:Bool×Int):cH.enc x=[dd x.1,dC ef x.2]:=rfl
def ard:ly (Int×SV):=⟨λx=>[dC ef x.1,x.2.v],2,λ_=>rfl,ai,λ_=>rfl⟩
@[simp] def ava:ard.sz=2:=rfl
@[simp] def arf(x:Int×SV):ard.enc x=[dC ef x.1,x.2.v]:=rfl
def arp:ly XI:=⟨λx=>[dC ef x.op,dC ef x.dst,dd x.a.1,dC ef x.a.2,dd x.b.1,dC ef x.b.2,dC ef x.fn,x.args.v],8,λ_=>rfl,ai,λ_=>rfl⟩
@[simp] def avf:arp.sz=8:=rfl
@[simp] def arq(x:XI):arp.enc x=[dC ef x.op,dC ef x.dst,dd x.a.1,dC ef x.a.2,dd x.b.1,dC ef x.b.2,dC ef x.fn,x.args.v]:=rfl
def ari:ly XR:=⟨λx=>[x.P.v,x.L.v,dC ef x.kind,dd x.on.1,dC ef x.on.2,x.T.v],6,λ_=>rfl,ai,λ_=>rfl⟩
@[simp] def avc:ari.sz=6:=rfl
@[simp] def arj(x:XR):ari.enc x=[x.P.v,x.L.v,dC ef x.kind,dd x.on.1,dC ef x.on.2,x.T.v]:=rfl
def Pv{α G:Type}{E:ly G}{Q1:G->α->Prop} :∀(b:List α)(f:Nat->List aa),(∀(i:Nat)(x:α),b[i]?=Z x->∃y,f i=E.enc y/\Q1 y x)->∃c:List G,Y c=Y b/\∀(i:Nat)(y:G)(x:α),c[i]?=Z y->b[i]?=Z x->f i=E.enc y/\Q1 y x
 |[],f,_=>⟨[],Q,λi y x h=>by simp at h⟩
 |x::b,f,H=>by
  have⟨y,h1,D⟩:=H 0 x rfl;have⟨c,w,F⟩:=Pv b (λi=>f (i+1)) (λi x a=>H (i+1) x a);refine⟨y::c,av w,λi c I P a=>?_⟩;cases i with
  |zero=>simp at P a;subst P;subst a;exact⟨h1,D⟩
  |succ i=>exact F i c I P a
def ai1(E:ly G)(c:List aa):∀(b:List G),(∀(i:Nat)(y:G),b[i]?=Z y->(c.drop (i*E.sz)).take E.sz=E.enc y)->c.take (Y b*E.sz)=E.flat b:=by
 intro b;induction b generalizing c with
 |nil=>intro _;simp
 |cons y b a=>
  intro H;have h0:=H 0 y rfl;rw[Nat.zero_mul,qA] at h0;have h1:=a (c.drop E.sz) (λi z w=>by have:=H (i+1) z w;rw[qB,Ox,ik] at this;rw[pa];exact this)
  rw[kb,qB,Ox,ik,B7,h0,h1,E.iJ]
def ae.pick{R:List aa->α->Prop}{E:ly G}{Q1:G->α->Prop}{d:List α}(s:ae R E.sz h v d)(k:∀c x,R c x->∃y,c=E.enc y/\Q1 y x):∃f:List G,Y f=Y d/\bj E h v f/\∀(i:Nat)(y:G)(x:α),f[i]?=Z y->d[i]?=Z x->Q1 y x:=by
 obtain⟨l,w,rfl,s⟩:=s;rcases s with⟨rfl,s⟩|⟨b,g,j,a,o,m,rfl,O,I⟩;exact⟨[],Q,⟨l,w,Q,fc ⟨Q,s⟩⟩,λi y x h=>by simp at h⟩
 .have⟨f,F,H⟩:=Pv (E:=E) (Q1:=Q1) d (λi=>(j.drop (g+i*E.sz)).take E.sz) (λi x D=>k _ _ (I i x D).2);refine⟨f,F,⟨_,w,by rw[F],?_⟩,λi y x P D=>(H i y x P D).2⟩;rcases La (Y d) with h0|h0;exact fc ⟨F7 J,ft ⟨b,g,Q⟩⟩;refine ft ⟨b,g,j,a,o,m,Q,O,?_,?_⟩
  .rw[F];have:=(I (Y d-1) _ (iK J)).1;rw[List.length_take,List.length_drop] at this;have m:=E.pos;have e:Y d*E.sz=(Y d-1)*E.sz+E.sz:=by rw[<-Nat.succ_mul];congr 1;omega
   rw[e];omega
  refine ai1 E (j.drop g) f (λi y P=>?_);have N:=(cR.mp P).1;have D:d[i]?=Z d[i]:=iK J;rw[pa];exact(H i y _ P D).1
def MT{b:List (Bool×Int)}(s:ae vR 2 h v b):bj cH h v b:=by
 have⟨d,F,D,H⟩:=ae.pick (E:=cH) (Q1:=λy x=>y=x) s (λc x e=>⟨x,e,Q⟩);have:d=b:=Bc λi=>by
  rcases Bb i (Y b) with w|w;have h1:b[i]?=Z b[i]:=iK w;have a:d[i]?=Z (d[i]'J):=iK J;rw[a,H i _ _ a h1,h1]
  rw[xE J,xE J]
 exact this▸D
structure InB(aF:Nat)(b:GB):Prop where
 lp:Y b.aP<1000000
 ll:Y b.list<1000000
 lt:Y b.to<1000000
 ph:∀p∈b.aP,(0<=p.dst/\p.dst<aF)/\Y p.row<2000000/\∀v∈p.row,Dy aF v
 li:∀x∈b.list,x.dst<aF/\Dy aF x.a/\Dy aF x.b/\Y x.args<2000000/\∀v∈x.args,Dy aF v
 on:Dy aF b.on
def LR{b:List Int}(s:ae nR 1 h v b):bj encI h v b:=by
 have⟨d,F,D,H⟩:=ae.pick (E:=encI) (Q1:=λy x=>y=x) s (λc x e=>⟨x,e,Q⟩);have:d=b:=Bc λi=>by
  rcases Bb i (Y b) with w|w;have h1:b[i]?=Z b[i]:=iK w;have a:d[i]?=Z (d[i]'J):=iK J;rw[a,H i _ _ a h1,h1]
  rw[xE J,xE J]
 exact this▸D
def LH{α G:Type}{Q1:α->G->Prop} :∀(b:List α),(∀x∈b,∃y,Q1 x y)->∃c:List G,Y c=Y b/\∀(i:Nat)(x:α)(y:G),b[i]?=Z x->c[i]?=Z y->Q1 x y
 |[],_=>⟨[],Q,λi x y h=>by simp at h⟩
 |x::b,H=>by
  have⟨y,h1⟩:=H x (iz ..);have⟨c,w,D⟩:=LH b (λx a=>H x (vU _ a));refine⟨y::c,av w,λi c F a P=>?_⟩;cases i with
  |zero=>simp at a P;subst a;subst P;exact h1
  |succ i=>exact D i c F a P
def eo.view{E:ly α}{R:List aa->G->Prop}{c:List α}{d:List G}(w:eo E h A c)(a:Y d=Y c)(H:∀(i:Nat)(x:α)(y:G),c[i]?=Z x->d[i]?=Z y->R (E.enc x) y):ae R E.sz h A.v d:=by
 have⟨I,w⟩:=w;refine⟨A.a,A.c,by simp[I,a],?_⟩;rcases w with⟨N,_,rfl⟩|⟨b,o,s,F,N,d,O,_⟩;exact fc ⟨F7 a,fc N⟩
 .refine ft ⟨b,0,_,_,_,_,N,O,λi y P=>?_⟩;have d:=(cR.mp P).1;have D:c[i]?=Z (c[i]'J):=iK J;have d:(c++F)[i]?=Z (c[i]'J):=by rw[Jf J];exact D
  rw[Je,E.Cq _ _ _ d];exact⟨E.len _,H i _ y D P⟩
structure TOk(tss:List (List Int)):Prop where
 len:Y tss<=1000
 two:∀ts∈tss,Y ts<=2
 to:∀ts∈tss,∀t∈ts,0<=t/\t<Y tss
def bx.low{E:ly α}{c:List α}(a:bx E n1 h v c)(D:n0<=n1):bx E n0 h v c:=by rcases a with a|⟨b,s,e,O,w,h1⟩;exact fc a;exact ft ⟨b,s,e,O,w,J⟩
structure PY(aF:Nat)(bs:List GB):Prop where
 len:Y bs<1000000
 ph:∀b∈bs,Y b.aP<1000000/\∀q∈b.aP,(0<=q.dst/\q.dst<aF)/\Y q.row<2000000/\∀v∈q.row,Dy aF v
 li:∀b∈bs,Y b.list<1000000/\∀x∈b.list,x.dst<aF/\Y x.args<1900000/\∀v∈eD x,Dy aF v
 on:∀b∈bs,Dy aF b.on
def aa2{E:ly α}{row:List α}(s:bj E h v row)(F:cy h)(g:az S h m)(G:row≠[]->∀b,bD v b->¬S b):bj E m v row:=by by_cases e:row=[];subst e;have⟨a,w,H,s⟩:=s;refine⟨a,w,H,?_⟩;rcases s with s|⟨b,E,_,_,_,_,D,_⟩;exact fc s;exact fc ⟨Q,ft ⟨b,E,D⟩⟩;exact s.grow F g (G e)
def Uq(sz:Nat):aG:=(G_ [B_ 9 .lss 8 7] (J_ (H_ 9 0) (J_ (P_ 1 (G_ [m_ 10 8,m_ 5 10] (G_ [m_ 11 1,m_ 12 0,m_ 13 5,o_ 14 (.ee K sz (t_ 12) (t_ 13)),o_ 15 (.load (Z sz) (t_ 14)),o_ 16 (.call (t_ 11) [t_ 15])] (I_ 16 (G_ [m_ 17 5,m_ 4 17] .ret) .skip)))) (O_ [C_ 18 .add 8 1,m_ 8 18]))))
def Q8(sz:Nat):aG:=(.seq (.ops [⟨(Z 4),K,(.mv (.const (dC ef 0)))⟩]) (.seq (.seq (.ops [⟨(Z 6),K,(.mv (.tmp 0))⟩,⟨(Z 7),K,(.ox (.tmp 6))⟩,⟨(Z 8),K,(.mv (.const (dC ef 0)))⟩]) (.block 0 (.loop (Uq sz)))) (.seq (.ops [⟨(Z 4),K,(.mv (.const (dC ef (Int.negSucc 0))))⟩]) .ret)))
def WR:FF 133=Z ⟨[.tmp 4],Q8 2,.no⟩:=oz
section
variable{α:Type}{E:ly α}{p:α->Bool}{y:aa}
def JZ(E:ly α)(p:α->Bool)(y:aa)(A:SV)(a:List α)(h:aB):Prop:=∀x∈a,∀h1,az (bD A.v) h h1->dQ FF y [eU ⟨E.enc x⟩] h1 (λv m=>v=dd (p x)/\az aV h1 m)
def awX(h:aB)(p:α->Bool)(y:aa)(A:SV)(b:List α)(m:Nat)(e:Env)(a:aB):Prop:=
 ∃j:Nat,m=Y b-j/\j<=Y b/\bX e 0=A.v/\bX e 1=y/\bz e 7 (Y b)/\bz e 8 j/\az aV h a/\∀x∈b.take j,p x=b9
def air(p:α->Bool)(a:List α)(h:aB)(v:aa)(m:aB):Prop:=az aV h m/\((v=dC ef (-1)/\∀x∈a,p x=b9)\/∃(j:Nat) (x:α),v=dC ef j/\a[j]?=Z x/\p x=cd/\∀x∈a.take j,p x=b9)
def HI{f:Nat}(z:FF f=Z ⟨[.tmp 4],Q8 E.sz,.no⟩)(i:cy h){T:List α}(w:eo E h A T)(d:Y T<2000000)(H:JZ E p y A T h):aY FF f [A.v,y] h (air p T h):=by
 have I:=w.len;refine aY.of z ?_;unfold Q8;simp[I];refine aN.loop (awX h p y A T) ?_ (n:=Y T) ⟨0,Q,J,av I,ag,ag,ag,.refl i,λx a=>by simp at a⟩;rintro L e f⟨j,rfl,g,F,N,M,z,D,G⟩;unfold Uq;by_cases g:j<Y T
 .have S:=bZ ((j:Int)+1) J J;have⟨x,a⟩:=aR T j g;have⟨b,L,o,s,k,O,_,_,l,_⟩:=(w.cr i D).el a;have U:=l 0 E.sz J;simp[-ay,E.len] at U;rw[nz (by rw[E.len];exact fE _)] at U;simp at F;rw[k,I] at F;simp[F,N,M,z,g,U,E.len,-ay];refine bm.fB (V:=λv m=>v=dd (p x)/\az aV f m) (by simpa [N] using H x (cK a) f D.cr) ?_;rintro _ i⟨rfl,W⟩;cases L:p x
  simp[z,S];refine⟨Y T-(j+1),J,j+1,Q,J,by simp[F,k,I],av N,av M,ag,D.trans W,λX g=>?_⟩;rw[mw,a] at g;rcases jL.1 g with h|h;exact G X h;simp at h;subst h;exact L;simp;exact⟨D.trans W,ft ⟨j,x,Q,a,L,G⟩⟩
 .have:j=Y T:=J
  subst this;rw[mI] at G;simp[M,z];exact⟨D,fc ⟨Q,G⟩⟩
end
def fG:ly (Int×(Bool×Int)):=⟨λx=>[dC ef x.1,dd x.2.1,dC ef x.2.2],3,λ_=>rfl,ai,λ_=>rfl⟩
@[simp] def aiR:fG.sz=3:=rfl
@[simp] def ara(x:Int×(Bool×Int)):fG.enc x=[dC ef x.1,dd x.2.1,dC ef x.2.2]:=rfl
def aoF{ws:List (Int×(Bool×Int))}(w:h.tr.get W=Z (.ch (fG.flat ws) a o s)){x:Int×(Bool×Int)}(b:ws[k]?=Z x):cC h W (k*3) 3=Z [dC ef x.1,dd x.2.1,dC ef x.2.2]:=by have D:=(cR.mp b).1;have:=fG.rm ws k 0 3 x b ai;rw[fm w (by rw[fG.eN];simp;omega)];simp only[aiR,Jk] at this;rw[this];rfl
def akn{c:List (Int×(Bool×Int))}(a:bx fG n0 h v c):v=c6 K 0 0/\c=[]\/∃b s,v=c6 (Z ⟨b,0,K⟩) (Y c) (Y c)/\h.tr.get b=Z (.ch (fG.flat c) b9 3 s)/\n0<=b/\c≠[]:=by rcases a with⟨h1,w⟩|⟨b,s,h1,w,D,F⟩;exact fc ⟨w,h1⟩;exact ft ⟨b,s,h1,w,F,D⟩
def atV(b:List Int)(a:Int):Bool:=decide (0<=(b[a.toNat]?).getD (-1))
def Ext(c a D w:Nat->Nat):Prop:=∀b,c b≠0->D b=c b/\w b=a b
def Ext.refl(b a:Nat->Nat):Ext b a b a:=λ_ _=>⟨Q,Q⟩
def Ext.trans{x D H F G w:Nat->Nat}(a:Ext x D H F)(b:Ext H F G w):Ext x D G w:=λx I=>by have⟨h1,c⟩:=a x I;have⟨N,c⟩:=b x J;exact⟨J,J⟩
def Rf:aG:=(G_ (R_ 90 0 12 13 2 [f_ 94 1 93,u_ (.store 1 (t_ 94) (.const (c6 K 0 0)))]) (G_ [m_ 95 15,z_ 96 95,k_ 97 0] (Q_ 8 nW)))
def acr:yv=G_ [B_ 57 .lss 56 55] (J_ (H_ 57 4) (J_ (P_ 5 (G_ [m_ 58 56,a_ 59 2 54 56,L_ 60 2 59,o_ 14 (.alloc [(dC ef 0),(c6 K 0 0)]),m_ 13 58,s_ 2 14 60] (G_ [o_ 15 (.mv (.const (c6 K 0 0)))] (J_ (G_ [f_ 61 1 14,l_ 62 61,z_ 63 62,k_ 64 0] (Q_ 6 rU)) (G_ [m_ 88 15,F_ 89 197 [t_ 88,(.func 198)]] Rf))))) (O_ [C_ 117 .add 56 1,m_ 56 117]))):=Q
def KpT:List Nat:=[20,90,91,92,93,94,95,96,97,98,99,100,101,102,103,104,105,106,107,108,109,110,111,112,113,114,115,116]
def Z8:List Nat:=[13,14,15,16,17,18,20,56,57,58,59,60,61,62,63,64,65,66,67,68,69,70,71,72,73,74,75,76,77,78,79,80,81,82,83,84,85,86,87,88,89,90,91,92,93,94,95,96,97,98,99,100,101,102,103,104,105,106,107,108,109,110,111,112,113,114,115,116,117]
def aw7(h:aB)(n:Nat)(bw:List Nat)(d4:Nat)(e:Env)(m:Nat)(x:Env)(a:aB):Prop:=
 ∃(j:Nat) (uC:List Int),m=Y bw-j/\j<=Y bw/\bz x 30 j/\aH [30,6,7,31,32,33,34,35,36,37,38,39] e x/\az (· =d4) h a/\(c_ a d4 (encI.flat uC))/\Y uC=n/\(∀i x:Nat,i<j->bw[i]?=Z x->uC[x]?=Z (i:Int))/\∀x,x<n->x∉bw.take j->uC[x]?=Z (-1)
def ajL(A:cy h)(L:bw.Nodup)(V:∀x∈bw,x<n)(v:Y bw<=n)(r:n<=1000){v:SV}(d:bj encI h v.v (nI bw))(g:∀b,bD v.v b->bw≠[]->b≠d4)(M:dR h d4 (encI.flat (an n (-1:Int))) w)(y:bX e 5=c6 (Z ⟨d4,0,K⟩) n n)(o:bX e 28=v.v)(l:bz e 29 (Y bw))(u:bz e 30 0)(C:∀k m H,aH [30,6,7,31,32,33,34,35,36,37,38,39] e k->az (· =d4) h m->(c_ m d4 (encI.flat H))->Y H=n->(∀i x:Nat,bw[i]?=Z x->H[x]?=Z (i:Int))->(∀x,x<n->x∉bw->H[x]?=Z (-1))->I (.exit 0) k m):aN FF (.loop yy) e h I:=by
 have X:v.l=Y bw:=by have⟨T,t,e,_⟩:=d;simp[nI] at e;exact e.2.1
 refine aN.loop (aw7 h n bw d4 e) ?_ (n:=Y bw) ⟨0,_,Q,J,u,aH.refl _ _,.refl A,⟨w,M⟩,ag,λi x h=>J,λx U _=>by rw[TV,bH U]⟩;rintro W k z⟨j,T,rfl,v,F,M,G,⟨s,N⟩,u,B,t⟩;have f:=M.at y;have q:=M.at o;have D:=M.at l;unfold yy;by_cases p:j<Y bw
 .have⟨x,U⟩:=aR bw j p;have o:=V x (cK U);have r:=aa2 d A G (λV b O=>g b O (λe=>V (by rw[e];rfl)));have⟨g,k,y,l,_,_,A⟩:=r.read (LQ U);have a:=A 0 1 ai;simp[-ay,nI] at a l;have S:=bZ ((j:Int)+1) J J;have E:x+1<=Y T:=J
  simp at q;rw[l.1,X] at q;simp[f,q,D,F,p,a,o,N,E,S,-ay];have k:∀i,bw[i]?=Z x->i=j:=λi X=>by have h1:=(cR.mp X).2;have z:=(cR.mp U).2;exact(ib L).1 (h1.trans z.symm)
  refine⟨Y bw-(j+1),J,j+1,T.set x j,Q,p,ag,?_,G.trans (aX G.ok N),⟨z.clock,by rw[bc,tA T x j J]⟩,av u,λi y X P=>?_,λy P p=>?_⟩
  .exact au
  rw[fq];by_cases e:x=y;subst e;rw[bH Q,bH J,k i P];rw[bM e];by_cases k:i=j;subst k;rw[U] at P;cases P;exact absurd rfl e;exact B i y J P;rw[mw,U] at p;rw[fq,bM (λe=>p (av e))];exact t y P (λh=>p (List.mem_append_left _ h))
 .have:j=Y bw:=J
  subst this;rw[mI] at t;simp[D,F];exact C _ _ T (M.set) G ⟨s,N⟩ u (λi x U=>B i x (cR.mp U).1 U) t
def mz(a:List Int)(t:Int):Int:=(a[t.toNat]?).getD (-1)
def KtL:List Nat:=[21,22,122,123,124,125,126,127,128,129,130,131,132,133,134,135,136]
structure KR(ats:List Int)(pk:List Int)(r r':XR):Prop where
 P:r'.P=r.P
 L:r'.L=r.L
 T:r'.T=r.T
 kind:r'.kind=r.kind
 on:r'.on=r.on
 ls:r'.ls=r.ls
 ts:r'.ts=r.ts.map (mz ats)
 pl:Y r'.ps=Y r.ps
 ps:∀(i:Nat)(q p:Int×SV),r'.ps[i]?=Z q->r.ps[i]?=Z p->q.1=p.1/\q.2.l=Y (pk.filter (atV ats))
def ahh{b:List (List Int)}(T:TOk b):Hd (Y b) (Edge.dm b):=by
 have c:∀a∈b,∀t∈a,t.toNat<Y b:=λa H t w=>aw (T.to a H t w)
 refine⟨Edge.iV _,λx ps D=>⟨?_,λp F=>?_⟩⟩
 .have h1:=Edge.zc (n:=Y b) (tos:=b) T.two x (Y b);have I:((Edge.upto (Y b) b (Y b))[x]?).getD []=ps:=by show((Edge.dm b)[x]?).getD []=ps;rw[D];rfl
  rw[I] at h1;have:=T.len;omega
 have G:=(Edge.HO c (u:=x) (x:=p)).1 (by rw[D];exact F);obtain⟨i,rfl,a,w,_⟩:=G;have:=(cR.mp w).1;omega
def GN(E:ly α)(b a:List α)(i:Nat):bg (E.flat b) (i*E.sz) (E.flat a)=E.flat (b.take i++a++b.drop (i+Y a)):=by unfold bg;rw[E.ij,E.eN,<-qB,E.mq,E.dX,E.dX]
def IxI(h:aB)(W:SV)(t:Int)(b:List Int)(m:Nat)(e:Env)(a:aB):Prop:=
 ∃j:Nat,m=Y b-j/\j<=Y b/\bX e 0=W.v/\bz e 1 t/\bz e 7 (Y b)/\bz e 8 j/\a=h/\∀k,k<j->b[k]? ≠Z t
def IxQ(a:List Int)(t:Int)(v:aa):Prop:=(∃k:Nat,v=dC ef k/\a[k]?=Z t/\∀m,m<k->a[m]? ≠Z t)\/(v=dC ef (-1)/\t∉a)
def sQ{W:SV}{i:List Int}(P:bj encI h W.v i)(U:Y i<1000000)(t:Int):aY FF 162 [W.v,dC ef t] h (λv m=>m=h/\IxQ i t v):=by
 have D:W.l=Y i:=by have⟨S,d,e,_⟩:=P;simp at e;exact e.2.1
 refine aY.of zP ?_;unfold pK;simp[D];refine aN.loop (IxI h W t i) ?_ (n:=Y i) ⟨0,Q,J,av D,ag,ag,ag,Q,λk F=>J⟩;rintro c e U⟨j,rfl,L,w,X,G,I,rfl,O⟩;unfold nQ;by_cases f:j<Y i
 .have c:=bZ ((j:Int)+1) J J;have⟨x,N⟩:=aR i j f;have⟨E,A,l,H,_,_,q⟩:=P.read N;have a:=q 0 1 ai;simp[-ay] at a H;simp at w;rw[H.1,D] at w;by_cases L:t=x
  subst L;simp[w,X,G,I,f,a,-ay];exact fc ⟨j,Q,N,O⟩
  .have C:(t==x)=b9:=by simp[L]
   simp[w,X,G,I,f,a,C,c,-ay];refine⟨Y i-(j+1),J,j+1,Q,J,by simp[w,H.1,D],av X,av G,ag,Q,λk F y=>?_⟩;rcases Bb k j with h|h;exact O k h y
   .have:k=j:=J
    subst this;rw[N] at y;cases y;exact L rfl
 .have:j=Y i:=J
  subst this;simp[G,I];refine ft ⟨Q,λT=>?_⟩;have⟨k,F⟩:=iF T;exact O k (cR.mp F).1 F
def IK{W:SV}{b:List Int}(w:bj encI h W.v b)(D:Y b<1000000){t:Int}(I:t∈b):aY FF 162 [W.v,dC ef t] h (λv m=>m=h/\∃k:Nat,v=dC ef k/\b[k]?=Z t):=by
 obtain⟨n,v,m,h1,F,a|a⟩:=sQ w D t;have⟨k,G,H,_⟩:=a;exact⟨n,v,m,h1,F,k,G,H⟩;exact absurd I a.2
def TQ(y:Bool×Int):cH.flat [y]=[dd y.1,dC ef y.2]:=Q
def axq:List Nat:=[79,80,81,82,83,84,85,86,87,88,89,90,91,92,93,94,95,96,97,98,99]
def aqD:List Nat:=[13,14,15,69,70,71,72,73,74,75,76,77,78,79,80,81,82,83,84,85,86,87,88,89,90,91,92,93,94,95,96,97,98,99,100]
abbrev El:Type:=Int×(Bool×Int)
def kAt(a:List El)(i:Nat):Int:=((a[i]?).map (·.1)).getD 0
def Inj(n:Nat)(a:List El):Prop:=∀p q,p<n->q<n->kAt a p=kAt a q->p=q
def aeK(d c:List El):Prop:=c.Perm d/\c.Pairwise λa b=>a.1<b.1
def aeT:FF 197=Z ⟨[],.bad,.run (MN 198) λ_ _ _ _=>MP⟩:=Q
def ahy(h:aB):aY FF 197 [c6 K 0 0,.func (.func 198) #[] #[]] h (λ_ m=>m=h):=aY.run aeT (show MN 198 _ h=_ by unfold MN;rw[bH rfl]) rfl
def auR(x:El):SF:=(Fin.ofNat 1000000 x.1.toNat,x.2)
def Y7(x:SF):El:=((x.1.1:Int),x.2)
def KH:∀a:List SF,fG.flat (a.map Y7)=mG a
 |[]=>rfl
 |y::a=>by have:=KH a;simp only[ly.flat,mG,zZ,List.flatMap_cons] at this⊢;rw[this];rfl
def alz:∀ {a:List El},(∀x∈a,0<=x.1/\x.1<1000000)->(a.map auR).map Y7=a
 |[],_=>rfl
 |x::a,h=>by have h1:=h x iz;rw[zZ,zZ,alz λy P=>h y (vU _ P)];congr 1;refine Prod.ext ?_ rfl;show((x.1.toNat%1000000:Nat):Int)=x.1;omega
def Zr(v:cy h){f:List El}(G:h.tr.get d=Z (.ch (fG.flat f) b9 o s))(r:f≠[])(x:Y f<50)(O:∀x∈f,0<=x.1/\x.1<1000000)(u:Inj (Y f) f):aY FF 197 [c6 (Z ⟨d,0,K⟩) (Y f) c,.func (.func 198) #[] #[]] h (λ_ m=>∃g,aeK f g/\Y g=Y f/\az (· =d) h m/\∃s,m.tr.get d=Z (.ch (fG.flat g) b9 o s)):=by
 have⟨D,n⟩:∃D,D=f.map auR:=⟨_,Q⟩;have I:D.map Y7=f:=by rw[n];exact alz O
 have B:Y D=Y f:=by rw[n,yd]
 rw[<-I,KH] at G;have n:Up3 (D.mergeSort λx y=>decide (x.1.1<=y.1.1)):=by
  have t:=HE D λx y=>decide (x.1.1<=y.1.1);have s:=List.pairwise_mergeSort (le:=λx y:SF=>decide (x.1.1<=y.1.1)) (λa b c h1 l=>by simp at*;omega) (λa b=>by simp;omega) D;have q:(D.map λx=>x.1.1).Nodup:=List.pairwise_iff_getElem.2 λi j p A z e=>by
   simp only[List.getElem_map] at e;have z:i<Y D:=ak p
   have p:j<Y D:=ak A
   have k:∀i (h:i<Y D),kAt f i=(D[i].1.1:Int):=λi h=>by rw[<-I];simp[kAt,h,Y7]
   have:=u i j J J (by rw[k i z,k j p,e]);omega
  have p:((D.mergeSort λx y=>decide (x.1.1<=y.1.1)).map λx=>x.1.1).Nodup:=(t.map _).nodup_iff.2 q;exact(s.and (gw.1 p)).imp λ⟨h1,l⟩=>by simp at h1;omega
 have l:=HE D λx y=>decide (x.1.1<=y.1.1);generalize D.mergeSort (λx y=>decide (x.1.1<=y.1.1))=g at n l;have y:∀ws:List SF,Y ws=Y D->gq h d 0 (mG ws)=Z (put h d 0 (mG D) (mG ws) o):=λws x=>by unfold gq;rw[G];simp only[mr];rw[bH (by rw[x];simp)];rfl
 have⟨F,N⟩:∃F,F=[bo (Z ⟨d,0,K⟩) (Y f) c,.func (.func 198) #[] #[]]:=⟨_,Q⟩;have H:∃m b c s o f g,alV 198 F h m b c s o f g:=⟨_,d,c,s,o,D,g,by rw[N,B],G,λe=>r (by rw[<-I,e];rfl),J,l,n,y g l.length_eq⟩;have l:F≠[c6 K 0 0,.func (.func 198) #[] #[]]:=λe=>by rw[N] at e;cases e
 have⟨m,f⟩:∃m,MN 198 F h=Z (.tuple #[],m):=⟨H.choose,by unfold MN;rw[bM l,dif_pos H]⟩;rw[<-N];refine aY.run aeT f ?_;obtain⟨_,⟨e,_⟩|⟨g,g,g,g,g,n,g⟩⟩:=MO f;exact absurd e l;have a:=g.a;rw[N] at a;simp at a;obtain⟨rfl,_,_⟩:=a;have l:=g.hb;rw[G] at l;simp at l;obtain⟨f,rfl,rfl⟩:=l;cases OL f;have w:=g.w;rw[y n g.p.length_eq] at w;cases w;have y:=g.p.length_eq;refine⟨n.map Y7,⟨by rw[<-I];exact g.p.map _,gw.2 (g.u.imp λh=>by simp[Y7];omega)⟩,by simp;omega,aX v G,h.clock,?_⟩;rw[bc,KH];unfold bg;rw[List.take_zero,Gb (by simp[mr,y]),ye];rfl
structure YB where
 P:SV
 L:SV
 T:SV
 kind:Int
 on:Bool×Int
 ps:List (GP×SV)
 ls:List (GI×SV)
 to:List Int
def iE:ly (GP×SV):=⟨λx=>[dC ef x.1.dst,x.2.v],2,λ_=>rfl,ai,λ_=>rfl⟩
@[simp] def avb:iE.sz=2:=rfl
@[simp] def arh(x:GP×SV):iE.enc x=[dC ef x.1.dst,x.2.v]:=rfl
def kh:ly (GI×SV):=⟨λx=>aQ x.1.op x.1.dst x.1.a.1 x.1.a.2 x.1.b.1 x.1.b.2 x.1.fn x.2.v,8,λ_=>rfl,ai,λ_=>rfl⟩
@[simp] def avg:kh.sz=8:=rfl
@[simp] def KD(x:GI×SV):kh.enc x=[dC ef x.1.op,dC ef x.1.dst,dd x.1.a.1,dC ef x.1.a.2,dd x.1.b.1,dC ef x.1.b.2,dC ef x.1.fn,x.2.v]:=rfl
def eH:ly YB:=⟨λx=>[x.P.v,x.L.v,dC ef x.kind,dd x.on.1,dC ef x.on.2,x.T.v],6,λ_=>rfl,ai,λ_=>rfl⟩
@[simp] def au9:eH.sz=6:=rfl
@[simp] def FY(x:YB):eH.enc x=[x.P.v,x.L.v,dC ef x.kind,dd x.on.1,dC ef x.on.2,x.T.v]:=rfl
def YB.g(y:YB):GB:=⟨y.ps.map (·.1),y.ls.map (·.1),y.kind,y.on,y.to⟩
inductive Lo where
 |P
 |L
 |T
 |R (j:Nat)
 |X (j:Nat)
def fy(A:SV):Option Nat:=A.a.map (·.block)
def YB.loc(r:YB):Lo->Option Nat
 |.P=>fy r.P
 |.L=>fy r.L
 |.T=>fy r.T
 |.R j=>(r.ps[j]?).bind λq=>fy q.2
 |.X j=>(r.ls[j]?).bind λx=>fy x.2
def fx(B:SV)(a:List YB):Option (Nat×Lo)->Option Nat
 |none=>fy B
 |some (i,l)=>(a[i]?).bind λr=>r.loc l
def Lo.x:Lo->Prop
 |.X _=>True
 |_=>False
def Xo:Option (Nat×Lo)->Prop
 |none=>False
 |some (_,l)=>l.x
def ais{α:Type}(f:α->Option Nat):Prop:=∀a b c,f a=Z c->f b=Z c->a=b
def Bm(w:Prop)(f:Lo->Option Nat):Prop:=∀a b c,f a=Z c->f b=Z c->a=b\/(w/\a.x/\b.x)
def Nu(w:Prop)(f:Option (Nat×Lo)->Option Nat):Prop:=∀a b c,f a=Z c->f b=Z c->a=b\/(w/\Xo a/\Xo b)
def xk(B:SV)(a:List YB):Prop:=Nu False (fx B a)
def cm(B:SV)(a:List YB)(c:Nat):Prop:=∃l,fx B a l=Z c
structure BZ(h:aB)(y:YB):Prop where
 P:eo iE h y.P y.ps
 L:eo kh h y.L y.ls
 T:eo encI h y.T y.to
 ps:∀q∈y.ps,eo cH h q.2 q.1.row
 ls:∀x∈y.ls,eo cH h x.2 x.1.args
structure FZ(h:aB)(n0:Nat)(B:SV)(ys:List YB):Prop where
 A:eo eH h B ys
 r:∀y∈ys,BZ h y
 inj:Nu True (fx B ys)
 new:∀l c,fx B ys l=Z c->n0<=c
def dV(h:bD A.v c):fy A=Z c:=by have⟨b,n,a,e⟩:=h;simp at e;simp[fy,e.1]
def cj(h:A.a=Z ⟨b,o,K⟩):fy A=Z b:=by simp[fy,h]
section
variable{α:Type}{E:ly α}{h m:aB}{A:SV}{f:List α}
def eo.at{c:Nat}(w:eo E h A f)(e:fy A=Z c):∃o,h.tr.get c=Z o:=by rcases w.2 with⟨N,_⟩|⟨b,o,s,a,N,_,O,_⟩;simp[fy,N] at e;rw[cj N] at e;cases e;exact⟨_,O⟩
def eo.lt(w:eo E h A f)(a:cy h)(e:fy A=Z c):c<h.ax:=by have⟨o,D⟩:=w.at e;exact a.wf _ _ D
def eo.go(w:eo E h A f)(D:cy h)(g:az S h m)(G:∀c,S c->fy A≠Z c):eo E m A f:=w.grow D g (λc F a=>G c a (dV F))
def eo.aeX{d:List α}(w:eo E h A f)(e:d.map E.enc=f.map E.enc):eo E h A d:=by
 have D:Y d=Y f:=ak (congrArg List.length e)
 have⟨h1,w⟩:=w;refine⟨J,?_⟩;rcases w with⟨a,b,c⟩|⟨b,o,s,F,N,H,O,G⟩;exact fc ⟨a,b,by subst c;exact F7 D⟩
 .refine ft ⟨b,o,s,F,N,J,?_,G⟩;have:E.flat d=E.flat f:=by unfold ly.flat;rw[QT,QT,e]
  rw[E.dX,this,<-E.dX];exact O
end
section
variable{h m:aB}{n0:Nat}{y:YB}{B:SV}{f:List YB}
def YB.jM{q:GP×SV}(a:y.ps[j]?=Z q):y.loc (.R j)=fy q.2:=by simp[YB.loc,a]
def YB.pW(a:y.ls[j]?=Z q):y.loc (.X j)=fy q.2:=by simp[YB.loc,a]
def cJ{l:Lo}(P:f[i]?=Z y):fx B f (Z (i,l))=y.loc l:=by simp[fx,P]
def BZ.lt(w:BZ h y)(a:cy h){l:Lo}{c:Nat}(e:y.loc l=Z c):c<h.ax:=by
 cases l with
 |P=>exact w.P.lt a e
 |L=>exact w.L.lt a e
 |T=>exact w.T.lt a e
 |R j=>
  have⟨q,h1,D⟩:=OO.1 e;exact(w.ps q (cK h1)).lt a D
 |X j=>
  have⟨q,h1,D⟩:=OO.1 e;exact(w.ls q (cK h1)).lt a D
def BZ.go{S:Nat->Prop}(w:BZ h y)(F:cy h)(g:az S h m)(G:∀c l,S c->y.loc l≠Z c):BZ m y:=by
 refine⟨w.P.go F g λc a=>G c .P a,w.L.go F g λc a=>G c .L a,w.T.go F g λc a=>G c .T a,λq D=>?_,λq D=>?_⟩;have⟨j,H⟩:=iF D;exact(w.ps q D).go F g λc a=>by rw[<-YB.jM H];exact G c _ a
 have⟨j,H⟩:=iF D;exact(w.ls q D).go F g λc a=>by rw[<-YB.pW H];exact G c _ a
def BZ.cr(w:BZ h y)(a:cy h)(g:az aV h m):BZ m y:=w.go a g (λ_ _ h=>h.elim)
def FZ.at(w:FZ h n0 B f)(P:f[i]?=Z y):BZ h y:=w.r y (cK P)
def FZ.lt(w:FZ h n0 B f)(a:cy h){l:Option (Nat×Lo)}{c:Nat}(e:fx B f l=Z c):c<h.ax:=by
 match l with
 |none=>exact w.A.lt a e
 |some (i,l)=>
  have⟨q,h1,D⟩:=OO.1 e;exact(w.at h1).lt a D
def FZ.go{S:Nat->Prop}(w:FZ h n0 B f)(D:cy h)(g:az S h m)(F:∀c l,S c->fx B f l≠Z c):FZ m n0 B f:=
 ⟨w.A.go D g λc a=>F c K a,λy P=>by have⟨i,G⟩:=iF P;exact(w.r y P).go D g λc l a=>by rw[<-cJ (B:=B) G];exact F c _ a,w.inj,w.new⟩
def FZ.cr(w:FZ h n0 B f)(a:cy h)(g:az aV h m):FZ m n0 B f:=w.go a g (λ_ _ h=>h.elim)
def FZ.low(w:FZ h n0 B f)(a:cy h)(g:az S h m)(F:∀c,S c->c<n0\/h.ax<=c):FZ m n0 B f:=w.go a g (λc l D e=>by have:=F c D;have:=w.new l c e;have:=w.lt a e;omega)
def FZ.cX(w:FZ h n0 B f)(a:n1<=n0):FZ h n1 B f:=⟨w.A,w.r,w.inj,λl c e=>wV a (w.new l c e)⟩
def ais.uY{f I:α->Option Nat}(w:ais f)(a:α)(H:∀b,b≠a->I b=f b)(d:∀c,I a=Z c->∀b,f b=Z c->b=a):ais I:=by intro x y c F P;by_cases G:x=a;by_cases D:y=a;rw[G,D];rw[H y D] at P;rw[G] at F;exact absurd (d c F y P) D;rw[H x G] at F;by_cases D:y=a;rw[D] at P;exact absurd (d c P x F) G;rw[H y D] at P;exact w x y c F P
def Bm.uY{p:Prop}{f z:Lo->Option Nat}(w:Bm p f)(a:Lo)(H:∀b,b≠a->z b=f b)(N:∀c,z a=Z c->∀b,f b=Z c->b=a\/(p/\b.x/\a.x)):Bm p z:=by intro x y c G P;by_cases F:x=a;by_cases D:y=a;exact fc (by rw[F,D]);rw[H y D] at P;rw[F] at G;rcases N c G y P with h|⟨h1,I,M⟩;exact absurd h D;exact ft ⟨h1,by rw[F];exact M,I⟩;rw[H x F] at G;by_cases D:y=a;rw[D] at P;rcases N c P x G with h|⟨h1,I,M⟩;exact absurd h F;exact ft ⟨h1,I,by rw[D];exact M⟩;rw[H y D] at P;exact w x y c G P
def Nu.r{p:Prop}(w:Nu p (fx B f))(P:f[i]?=Z y):Bm p y.loc:=λa b c h1 D=>by rcases w (Z (i,a)) (Z (i,b)) c (by rw[cJ P];exact h1) (by rw[cJ P];exact D) with h|h;cases h;exact fc rfl;exact ft h
def FZ.uO(w:FZ h n0 B f)(a b:Option (Nat×Lo))(c:Nat)(h1:fx B f a=Z c)(F:fx B f b=Z c)(D:¬Xo a:=by exactλh=>h):a=b:=(w.inj a b c h1 F).elim id λh=>absurd h.2.1 D
def FZ.Gj(w:FZ h n0 B f)(P:f[i]?=Z y)(a b:Lo)(c:Nat)(h1:y.loc a=Z c)(F:y.loc b=Z c)(D:¬a.x:=by exactλh=>h):a=b:=(w.inj.r P a b c h1 F).elim id λh=>absurd h.2.1 D
def FZ.uY{n:YB}(w:FZ h n0 B f)(E:cy h)(V:az S h m)(A:n0<=h.ax)(P:f[i]?=Z y)(r:∀c,S c->∀o,fx B f o=Z c->o=K\/∃l,o=Z (i,l))(W:eo eH m B (f.set i n))(U:BZ m n)(t:∀p,Bm p y.loc->Bm p n.loc)(C:∀l c,n.loc l=Z c->(∃D,y.loc D=Z c/\(D.x->l.x))\/h.ax<=c):FZ m n0 B (f.set i n)/\(∀c,cm B (f.set i n) c->cm B f c\/h.ax<=c)/\(xk B f->xk B (f.set i n)):=by
 have x:=(cR.mp P).1;have s:∀l,fx B (f.set i n) (Z (i,l))=n.loc l:=λl=>by simp[fx,x]
 have L:∀k l,k≠i->fx B (f.set i n) (Z (k,l))=fx B f (Z (k,l)):=λk l F=>by simp[fx,fq,a7 F]
 have g:∀(o:Option (Nat×Lo))(c:Nat),fx B (f.set i n) o=Z c->(∃l,o=Z (i,l)/\n.loc l=Z c)\/((∀l,o≠Z (i,l))/\fx B f o=Z c):=λo c T=>by
  match o with
  |none=>exact ft ⟨λl e=>(by cases e),T⟩
  |some (k,l)=>
   by_cases e:k=i;subst e;rw[s] at T;exact fc ⟨l,Q,T⟩;rw[L k l e] at T;exact ft ⟨λX M=>by cases M;exact e Q,T⟩
 have j:∀p,Nu p (fx B f)->∀(l:Lo)(c:Nat)(o:Option (Nat×Lo)),n.loc l=Z c->fx B f o=Z c->(∃D,o=Z (i,D))\/(p/\Xo o/\l.x):=λp q l c o h1 s=>by rcases C l c h1 with⟨D,H,u⟩|H;rcases q o (Z (i,D)) c s (by rw[cJ P];exact H) with h|h;exact fc ⟨D,h⟩;exact ft ⟨h.1,h.2.1,u h.2.2⟩;have:=w.lt E s;omega
 have T:∀p,Nu p (fx B f)->Nu p (fx B (f.set i n)):=λp q a b c N O=>by rcases g a c N with⟨A,rfl,I⟩|⟨n1,I⟩;rcases g b c O with⟨v,rfl,G⟩|⟨L,G⟩;exact(t p (q.r P) A v c I G).imp (λh=>by rw[h]) id;rcases j p q A c b I G with⟨D,e⟩|h;exact absurd e (L D);exact ft ⟨h.1,h.2.2,h.2.1⟩;rcases g b c O with⟨v,rfl,G⟩|⟨L,G⟩;rcases j p q v c a G I with⟨D,e⟩|h;exact absurd e (n1 D);exact ft h;exact q a b c I G
 refine⟨⟨W,λz W=>?_,T True w.inj,λo c e=>?_⟩,λc ⟨o,e⟩=>?_,T False⟩;rcases iF W with⟨k,F⟩;rw[fq] at F;by_cases e:i=k;rw[bH e,bH x] at F;cases F;exact U;rw[bM e] at F;refine(w.at F).go E V λc l A E=>?_;rcases r c A (Z (k,l)) (by rw[cJ F];exact E) with M|⟨X,M⟩<;>cases M;exact e rfl;rcases g o c e with⟨l,rfl,p⟩|⟨_,p⟩;rcases C l c p with⟨D,H,_⟩|H;exact w.new (Z (i,D)) c (by rw[cJ P];exact H);omega;exact w.new o c p;rcases g o c e with⟨l,rfl,p⟩|⟨_,p⟩;exact(C l c p).imp (λ⟨D,H,_⟩=>⟨Z (i,D),by rw[cJ P];exact H⟩) id;exact fc ⟨o,p⟩
def BZ.view(w:BZ h y):bR h (eH.enc y) y.g:=by have row:∀ {A:SV} {vs:List (Bool×Int)},eo cH h A vs->ae vR 2 h A.v vs:=λw=>w.view rfl (λi x y a b=>by rw[a] at b;cases b;rfl);refine⟨y.P,y.L,y.T,Q,w.P.view (by simp[YB.g]) λj q p a c=>?_,w.L.view (by simp[YB.g]) λj q p a c=>?_,w.T.view Q (λi x y a c=>by simp only[YB.g] at c;rw[a] at c;cases c;rfl)⟩;simp[YB.g,a] at c;subst c;exact⟨q.2,Q,row (w.ps q (cK a))⟩;simp[YB.g,a] at c;subst c;exact⟨q.2,Q,row (w.ls q (cK a))⟩
def FZ.view(w:FZ h n0 B f):mm h B (f.map YB.g):=w.A.view ag λi r b a c=>by simp[a] at c;subst c;exact(w.at a).view
end
structure cM(h0 h:aB)(n0:Nat)(B0:SV)(iU:List YB)(B:SV)(ys:List YB):Prop where
 w:FZ h n0 B ys
 s:∀c,cm B ys c->cm B0 iU c\/h0.ax<=c
 g:az (cm B0 iU) h0 h
 x:xk B0 iU->xk B ys
section
variable{h0 h m:aB}{n0:Nat}{y:YB}{r B p:SV}{E f x:List YB}{i j:Nat}{S:Nat->Prop}
def cM.refl(w:FZ h n0 B f)(a:cy h):cM h h n0 B f B f:=⟨w,λ_ h=>fc h,.refl a,id⟩
def cM.step(T:cM h0 h n0 r E B f)(g:az S h m)(w:∀c,S c->cm B f c\/h0.ax<=c)(W:FZ m n0 p x/\(∀c,cm p x c->cm B f c\/h.ax<=c)/\(xk B f->xk p x)):cM h0 m n0 r E p x:=by
 have F:=T.g.ax;refine⟨W.1,λc a=>?_,T.g.trans' g aj λc a D=>?_,λh=>W.2.2 (T.x h)⟩;rcases W.2.1 c a with h|h;exact T.s c h;exact ft J
 .rcases w c D with h|h;exact(T.s c h).elim id λh=>J
  omega
def cM.trans(T:cM h0 h n0 r E B f)(U:cM h m n0 B f p x):cM h0 m n0 r E p x:=T.step U.g (λ_ h=>fc h) ⟨U.w,U.s,U.x⟩
def cM.go(T:cM h0 h n0 r E B f)(g:az S h m)(w:∀c,S c->h0.ax<=c/\¬cm B f c):cM h0 m n0 r E B f:=
 T.step g (λc a=>ft (w c a).1) ⟨T.w.go T.g.ok g λc l a e=>(w c a).2 ⟨l,e⟩,λ_ h=>fc h,id⟩
def cM.cr(T:cM h0 h n0 r E B f)(g:az aV h m):cM h0 m n0 r E B f:=T.go g (λ_ h=>h.elim)
def FZ.own(w:FZ h n0 B f)(P:f[i]?=Z y){l:Lo}(e:y.loc l=Z c){o:Option (Nat×Lo)}(D:fx B f o=Z c)(a:¬l.x):o=Z (i,l):=(w.uO (Z (i,l)) o c (by rw[cJ P];exact e) D a).symm
def cM.uY{n:YB}(T:cM h0 h n0 r E B f)(A:n0<=h0.ax)(P:f[i]?=Z y){L:Lo->Prop}(g:az (λc=>(∃l,L l/\y.loc l=Z c)\/h.ax<=c) h m)(C:∀l c o,L l->y.loc l=Z c->fx B f o=Z c->o=Z (i,l))(N:eH.enc n=eH.enc y)(x:(∀c l,((∃l,L l/\y.loc l=Z c)\/h.ax<=c)->¬L l->y.loc l≠Z c)->BZ m n)(z:∀p,Bm p y.loc->Bm p n.loc)(O:∀l c,n.loc l=Z c->(∃I,y.loc I=Z c/\(I.x->l.x))\/h.ax<=c):cM h0 m n0 r E B (f.set i n):=by
 have w:=T.w;have G:=T.g.ok;have A:=T.g.ax;have q:=w.at P;have H:∀c,((∃l,L l/\y.loc l=Z c)\/h.ax<=c)->∀o,fx B f o=Z c->∃l,L l/\o=Z (i,l):=λc a o D=>by rcases a with⟨l,F,e⟩|a;exact⟨l,F,C l c o F e D⟩;have:=w.lt G D;omega
 refine T.step g (λc a=>a.imp (λ⟨l,_,e⟩=>⟨Z (i,l),by rw[cJ P];exact e⟩) (λe=>J)) (w.uY G g J P (λc a o D=>ft ((H c a o D).imp λ_ h=>h.2)) ((w.A.go G g λc a e=>?_).aeX ?_) (x λc l a F e=>?_) z O);have⟨l,_,h⟩:=H c a K e;cases h;rw[List.map_set,N];refine Bc λk=>?_;rw[fq];by_cases e:i=k;subst e;rw[bH Q,bH (by simpa using(cR.mp P).1),gu,P];rfl;rw[bM e];have⟨b,h1,M⟩:=H c a (Z (i,l)) (by rw[cJ P];exact e);cases M;exact F h1
def cM.row{q p':GP×SV}(T:cM h0 h n0 r E B f)(t:n0<=h0.ax)(P:f[i]?=Z y)(G:y.ps[j]?=Z q)(g:az (λc=>(∃l,(l=.P\/l=.R j)/\y.loc l=Z c)\/h.ax<=c) h m)(n:eo iE m y.P (y.ps.set j p'))(u:eo cH m p'.2 p'.1.row)(O:∀c,fy p'.2=Z c->fy q.2=Z c\/h.ax<=c):cM h0 m n0 r E B (f.set i {y with ps:=y.ps.set j p'}):=by
 have F:=T.g.ok;have b:=T.w.at P;have d:=(cR.mp G).1;have I:∀l,l≠ .R j->({y with ps:=y.ps.set j p'} :YB).loc l=y.loc l:=λl a=>by
  cases l with
  |R k=>simp only[YB.loc];rw[fq,bM (λe=>a (by rw[e]))]
  |_=>rfl
 have s:({y with ps:=y.ps.set j p'} :YB).loc (.R j)=fy p'.2:=by simp[YB.loc,d]
 refine T.uY t P g (λl c o a e t=>T.w.own P e t (by rcases a with rfl|rfl<;>exactλh=>h)) rfl (λno=>⟨n,b.L.go F g λc w=>no c .L w nofun,b.T.go F g λc w=>no c .T w nofun,λz t=>?_,λx N=>?_⟩) (λp n=>n.uY (.R j) I λc w l a=>?_) λl c a=>?_
 .have⟨k,D⟩:=iF t;rw[fq] at D;by_cases e:j=k;rw[bH e,bH d] at D;cases D;exact u
  .rw[bM e] at D;exact(b.ps z (cK D)).go F g λc w=>by rw[<-YB.jM (y:=y) D];exact no c _ w (λH=>H.elim nofun λH=>by cases H;exact e Q)
 .have⟨k,D⟩:=iF N;exact(b.ls x N).go F g λc w=>by rw[<-YB.pW (y:=y) D];exact no c _ w nofun
 rw[s] at w;rcases O c w with h1|h1;exact(n l (.R j) c a (by rw[YB.jM G];exact h1)).imp id λh=>h.2.2.elim;have:=b.lt F a;omega
 by_cases e:l=.R j;rw[e,s] at a;exact(O c a).imp (λh=>⟨.R j,(by rw[YB.jM G];exact h),λh=>h.elim⟩) id;rw[I l e] at a;exact fc ⟨l,a,id⟩
def cM.ins{q p':GI×SV}(T:cM h0 h n0 r E B f)(G:xk B f)(n:n0<=h0.ax)(P:f[i]?=Z y)(H:y.ls[j]?=Z q)(g:az (λc=>(∃l,(l=.L\/l=.X j)/\y.loc l=Z c)\/h.ax<=c) h m)(u:eo kh m y.L (y.ls.set j p'))(t:eo cH m p'.2 p'.1.args)(O:∀c,fy p'.2=Z c->fy q.2=Z c\/h.ax<=c):cM h0 m n0 r E B (f.set i {y with ls:=y.ls.set j p'}):=by
 have F:=T.g.ok;have b:=T.w.at P;have s:=(cR.mp H).1;have d:∀l,l≠ .X j->({y with ls:=y.ls.set j p'} :YB).loc l=y.loc l:=λl w=>by
  cases l with
  |X k=>simp only[YB.loc];rw[fq,bM (λe=>w (by rw[e]))]
  |_=>rfl
 have N:({y with ls:=y.ls.set j p'} :YB).loc (.X j)=fy p'.2:=by simp[YB.loc,s]
 refine T.uY n P g (λl c o _ e n=>(G o (Z (i,l)) c n (by rw[cJ P];exact e)).elim id λh=>h.1.elim) rfl (λno=>⟨b.P.go F g λc a=>no c .P a nofun,u,b.T.go F g λc a=>no c .T a nofun,λx G=>?_,λz u=>?_⟩) (λp n=>n.uY (.X j) d λc a l w=>?_) λl c w=>?_
 .have⟨k,D⟩:=iF G;exact(b.ps x G).go F g λc a=>by rw[<-YB.jM (y:=y) D];exact no c _ a nofun
 .have⟨k,D⟩:=iF u;rw[fq] at D;by_cases e:j=k;rw[bH e,bH s] at D;cases D;exact t
  .rw[bM e] at D;exact(b.ls z (cK D)).go F g λc a=>by rw[<-YB.pW (y:=y) D];exact no c _ a (λI=>I.elim nofun λI=>by cases I;exact e Q)
 rw[N] at a;rcases O c a with h1|h1;exact n l (.X j) c w (by rw[YB.pW H];exact h1);have:=b.lt F w;omega
 by_cases e:l=.X j;rw[e,N] at w;exact(O c w).imp (λh=>⟨.X j,(by rw[YB.pW H];exact h),λ_=>by rw[e];trivial⟩) id;rw[d l e] at w;exact fc ⟨l,w,id⟩
def cM.to{to':List Int}(T:cM h0 h n0 r E B f)(N:n0<=h0.ax)(P:f[i]?=Z y)(g:az (λc=>(∃l,(l=.T)/\y.loc l=Z c)\/h.ax<=c) h m)(n:eo encI m y.T to'):cM h0 m n0 r E B (f.set i {y with to:=to'}):=by
 have F:=T.g.ok;have d:=T.w.at P;refine T.uY N P g (λl c o H e I=>T.w.own P e I (by rw[H];exactλh=>h)) rfl (λno=>⟨d.P.go F g λc w=>no c .P w nofun,d.L.go F g λc w=>no c .L w nofun,n,λx D=>?_,λx D=>?_⟩) (λp n a b c h1 j=>n a b c (by cases a<;>exact h1) (by cases b<;>exact j)) λl c H=>fc ⟨l,(by cases l<;>exact H),id⟩
 .have⟨k,G⟩:=iF D;exact(d.ps x D).go F g λc w=>by rw[<-YB.jM (y:=y) G];exact no c _ w nofun
 .have⟨k,G⟩:=iF D;exact(d.ls x D).go F g λc w=>by rw[<-YB.pW (y:=y) G];exact no c _ w nofun
end
structure pr{α:Type}(f:α->List (Bool×Int))(h:aB)(M:Nat)(qs:List (α×SV)):Prop where
 arr:∀q∈qs,eo cH h q.2 (f q.1)
 lo:∀q∈qs,∀c,fy q.2=Z c->M<=c
 inj:ais λj:Nat=>(qs[j]?).bind λq:α×SV=>fy q.2
section
variable{α:Type}{f:α->List (Bool×Int)}{h m:aB}{M:Nat}{p:List (α×SV)}
def pr.go{S:Nat->Prop}(w:pr f h M p)(D:cy h)(g:az S h m)(G:∀c,S c->c<M\/h.ax<=c):pr f m M p:=
 ⟨λq a=>(w.arr q a).go D g λc F e=>by have:=w.lo q a c e;have:=G c F;have:=(w.arr q a).lt D e;omega,w.lo,w.inj⟩
def pr.cr(w:pr f h M p)(a:cy h)(g:az aV h m):pr f m M p:=w.go a g (λ_ h=>h.elim)
def pr.push{x:α}(w:pr f h M p)(D:cy h)(g:az aV h m)(O:M<=h.ax)(N:eo cH m A (f x))(H:∀c,fy A=Z c->h.ax<=c):pr f m M (p++[(x,A)]):=by
 have I:=w.cr D g;have b:∀(j c:Nat),((p[j]?).bind λq:α×SV=>fy q.2)=Z c->c<h.ax:=λj c e=>by have⟨q,h1,g⟩:=OO.1 e;exact(w.arr q (cK h1)).lt D g
 refine⟨λq a=>?_,λq a c e=>?_,w.inj.uY (Y p) (λj F=>?_) λc G j F=>?_⟩;rcases jL.1 a with h|h;exact I.arr q h;simp at h;subst h;exact N;rcases jL.1 a with h|h;exact w.lo q h c e;simp at h;subst h;have:=H c e;omega
 by_cases g:j<Y p;rw[Jf g];rw[xE (by simp;omega),xE J];simp at G;have:=H c G;have:=b j c F;omega
def pr.lt(w:pr f h M p)(D:cy h){j c:Nat}(e:((p[j]?).bind λq:α×SV=>fy q.2)=Z c):M<=c/\c<h.ax:=by have⟨q,h1,a⟩:=OO.1 e;exact⟨w.lo q (cK h1) c a,(w.arr q (cK h1)).lt D a⟩
def pr.nil:pr f h M []:=⟨λq w=>by simp at w,λq w=>by simp at w,λa b c h=>by simp at h⟩
end
def set_drop{d b:List α}{q x:α}(a:Y d=j)(D:b[j]?=Z q):(d++b.drop j).set j x=(d++[x])++b.drop (j+1):=by have w:=(cR.mp D).1;rw[Sy,bM J,a,r6,fj w,List.set_cons_zero,KN];rfl
def iN{d qs:List α}(a:Y d=j):(d++qs.drop j)[j]?=qs[j]? :=by rw[Hv J,a,r6,List.getElem?_drop,Jk]
def Pf{f:α->G}{d:List α}{b:List α}{q:α}{x:α}(w:b[j]?=Z q)(e:d.map f=(b.map f).take j)(a:f x=f q):(d++[x]).map f=(b.map f).take (j+1):=by rw[aW,e,mw,gu,w];simp[a]
def CpZ(h:aB)(e:Env)(M X s0:Nat)(f:List aa)(a:SV)(b:List (GP×SV))(g:Nat)(c:Env)(m:aB):Prop:=
 ∃(j:Nat) (d:List (GP×SV)),g=Y b-j/\j<=Y b/\Y d=j/\aH [5,6,28,29,30,31,32,33,34,35,36,37,38,39,40,41] e c/\bz c 28 j/\az (bD a.v) h m/\m.tr.get X=Z (.ch f b9 0 s0)/\eo iE m a (d++b.drop j)/\pr GP.row m M d/\d.map (·.1)=(b.map (·.1)).take j
def WW(W:cy h0)(U:az aV h0 h){w L T:SV}{l:List (GP×SV)}(y:eo iE h w l)(P:∀q∈l,ae vR 2 h0 q.2.v q.1.row/\Y q.1.row<2000000)(x:Y l<1000000)(B:∀b,bD w.v b->h0.ax<=b/\b≠X)(M:dR h X [w.v,L.v,dC ef kind,dd on.1,dC ef on.2,T.v] s0)(S:cg e 4 X)(E:bX e 26=w.v)(A:bz e 27 (Y l))(x:bz e 28 0)(C:∀v m d,aH [5,6,28,29,30,31,32,33,34,35,36,37,38,39,40,41] e v->az (bD w.v) h m->m.tr.get X=Z (.ch [w.v,L.v,dC ef kind,dd on.1,dC ef on.2,T.v] b9 0 s0)->eo iE m w d->pr GP.row m h.ax d->d.map (·.1)=l.map (·.1)->I (.exit 2) v m):aN FF (.loop wE) e h I:=by
 have r:=y.len;refine aN.loop (CpZ h e h.ax X s0 [w.v,L.v,dC ef kind,dd on.1,dC ef on.2,T.v] w l) ?_ (n:=Y l)
  ⟨0,[],Q,J,Q,aH.refl _ _,x,.refl U.ok,M,y,.nil,ag⟩
 rintro k v m⟨j,d,rfl,x,V,t,z,g,r,a,R1,i⟩;have u:=t.at S;have H:=t.at E;have Q1:=t.at A;have G:=g.ok;have gg:az aV h0 m:=U.trans' g aj (λE x e=>aw ((B E e).1));unfold wE;by_cases M:j<Y l
 .have wj:=bZ ((j:Int)+1) J J;have⟨q,f⟩:=aR l j M;have⟨XU,w_⟩:=P q (cK f);have x:=iN (qs:=l) V;rw[f] at x;have⟨b,cs,o,s,v,O,S,dM,p,eI⟩:=a.el x;have P:=a.len;have n:Y (d++l.drop j)=Y l:=by simp;omega
  have S:=p 0 2 ai;have A:=G.bU r;have p:=G.st _ _ _ _ _ r;have k:=G.bU O;have nX:¬X=b:=λe=>(B b (fK v)).2 e.symm;simp[-ay] at S;have x:=r;simp at x;rw[v,P,n] at x;simp at H;rw[v,P,n] at H;have af1:s0<=m.clock+1:=J
  simp[u,H,Q1,z,M,S,-ay,aJ,cw,bh,A,aD x,aK];refine ck.cut (λS=>az aV m S) ((((az.refl G).var _ _).tick)) ?_;intro S p;have A:=R1.cr G p;have nC:=p.get G x;have B:=p.get G O;have k:=gg.trans p;refine ck.call (V:=kG cH S q.1.row) (ak (mo cH (bytes:=16) ju Q ai k.ok ((MT XU).cr W k) w_)) ?_;rintro _ x⟨D,F,rfl,W,S,hFc⟩;have R6:=A.push (x:=q.1) k.ok D (by have:=g.ax;have:=p.ax;omega) W (λc A=>by have⟨o,ho⟩:=W.at A;rcases W.2 with⟨N,_⟩|⟨W,_,_,_,N,_⟩;simp[fy,N] at A;rw[cj N] at A;cases A;exact S _ (fK N))
  have A:=D.get k.ok nC;have W:=D.get k.ok B;have k:=dM 1 1 ai;simp at k;simp[A,af1,M,W,k,z,wj,u];have u:az (· =b) x (put x b (j*2+1) cs [c6 F.a F.l F.c] o):=aX D.ok W;have S:=y.bU U.ok (fK v);have k:=eI (q.1,F) 1 [F.v] ag rfl (put x b (j*2+1) cs [c6 F.a F.l F.c] o) ⟨_,bc _ _ _ _ _ _⟩;rw[set_drop V f] at k;refine⟨Y l-(j+1),J,j+1,d++[(q.1,F)],Q,M,av V,?_,ag,((g.trans p.cr).trans D.cr).trans (u.cX (λE _ e=>e▸fK v)),?_,k,R6.go D.ok u (λc e=>J),Pf f i Q⟩
  .exact au
  have:=u.get D.ok A nX;simpa [v,P,n] using this
 .have:j=Y l:=J
  subst this;simp at a i;simp[Q1,z];exact C _ _ d (t.set) g r a R1 (by rw[i,nz ag])
def CxZ(h:aB)(e:Env)(M X s0:Nat)(f:List aa)(b:SV)(a:List (GI×SV))(g:Nat)(c:Env)(m:aB):Prop:=
 ∃(j:Nat) (d:List (GI×SV)),g=Y a-j/\j<=Y a/\Y d=j/\aH [7,8,49,50,51,52,53,54,55,56,57,58,59,60,61,62] e c/\bz c 49 j/\az (bD b.v) h m/\m.tr.get X=Z (.ch f b9 0 s0)/\eo kh m b (d++a.drop j)/\pr GI.args m M d/\d.map (·.1)=(a.map (·.1)).take j
def WV(z:cy h0)(U:az aV h0 h){M P T:SV}{l:List (GI×SV)}(A:eo kh h M l)(k:∀q∈l,ae vR 2 h0 q.2.v q.1.args/\Y q.1.args<2000000)(x:Y l<1000000)(p:∀b,bD M.v b->h0.ax<=b/\b≠X)(x:dR h X [P.v,M.v,dC ef kind,dd on.1,dC ef on.2,T.v] s0)(S:cg e 4 X)(E:bX e 47=M.v)(n:bz e 48 (Y l))(B:bz e 49 0)(C:∀v m d,aH [7,8,49,50,51,52,53,54,55,56,57,58,59,60,61,62] e v->az (bD M.v) h m->m.tr.get X=Z (.ch [P.v,M.v,dC ef kind,dd on.1,dC ef on.2,T.v] b9 0 s0)->eo kh m M d->pr GI.args m h.ax d->d.map (·.1)=l.map (·.1)->I (.exit 4) v m):aN FF (.loop wD) e h I:=by
 have r:=A.len;refine aN.loop (CxZ h e h.ax X s0 [P.v,M.v,dC ef kind,dd on.1,dC ef on.2,T.v] M l) ?_ (n:=Y l)
  ⟨0,[],Q,J,Q,aH.refl _ _,B,.refl U.ok,x,A,.nil,ag⟩
 rintro g v m⟨j,d,rfl,x,f,t,y,g,r,a,R1,i⟩;have u:=t.at S;have G:=t.at E;have W:=t.at n;have D:=g.ok;have gg:az aV h0 m:=U.trans' g aj (λB x e=>aw ((p B e).1));unfold wD;by_cases V:j<Y l
 .have wj:=bZ ((j:Int)+1) J J;have⟨q,L⟩:=aR l j V;have⟨XU,w_⟩:=k q (cK L);have k:=iN (qs:=l) f;rw[L] at k;have⟨b,E,o,s,H,O,v,dM,S,eI⟩:=a.el k;have x:=a.len;have n:Y (d++l.drop j)=Y l:=by simp;omega
  have v:=S 0 8 ai;have M:=D.bU r;have k:=D.st _ _ _ _ _ r;have k:=D.bU O;have nX:¬X=b:=λe=>(p b (fK H)).2 e.symm;simp[-ay] at v;have k:=r;simp at k;rw[H,x,n] at k;simp at G;rw[H,x,n] at G;have af1:s0<=m.clock+1:=J
  simp[u,G,W,y,V,v,-ay,aJ,cw,bh,M,aD k,aK];refine ck.cut (λS=>az aV m S) ((((az.refl D).var _ _).tick)) ?_;intro S v;have M:=R1.cr D v;have nC:=v.get D k;have Sv:=v.get D O;have p:=gg.trans v;refine ck.call (V:=kG cH S q.1.args) (ak (mo cH (bytes:=16) ju Q ai p.ok ((MT XU).cr z p) w_)) ?_;rintro _ S⟨w,F,rfl,z,k,hFc⟩;have R6:=M.push (x:=q.1) p.ok w (by have:=g.ax;have:=v.ax;omega) z (λc M=>by rcases z.2 with⟨N,_⟩|⟨z,_,_,_,N,_⟩;simp[fy,N] at M;rw[cj N] at M;cases M;exact k _ (fK N))
  have M:=w.get p.ok nC;have z:=w.get p.ok Sv;have k:=dM 7 1 ai;simp at k;simp[M,af1,V,z,k,y,wj,u];have u:az (· =b) S (put S b (j*8+7) E [c6 F.a F.l F.c] o):=aX w.ok z;have p:=A.bU U.ok (fK H);have k:=eI (q.1,F) 7 [F.v] ag rfl (put S b (j*8+7) E [c6 F.a F.l F.c] o) ⟨_,bc _ _ _ _ _ _⟩;rw[set_drop f L] at k;refine⟨Y l-(j+1),J,j+1,d++[(q.1,F)],Q,V,av f,?_,ag,((g.trans v.cr).trans w.cr).trans (u.cX (λB _ e=>e▸fK H)),?_,k,R6.go w.ok u (λc e=>J),Pf L i Q⟩
  .exact au
  have:=u.get w.ok M nX;simpa [H,x,n] using this
 .have:j=Y l:=J
  subst this;simp at a i;simp[W,y];exact C _ _ d (t.set) g r a R1 (by rw[i,nz ag])
structure OZ(h:aB)(n0:Nat)(ys:List YB):Prop where
 r:∀y∈ys,BZ h y
 inj:Nu False (fx cU ys)
 new:∀l c,fx cU ys l=Z c->n0<=c
section
variable{h m:aB}{n0 n1:Nat}{f:List YB}{y:YB}{B:SV}{S:Nat->Prop}
def OZ.lt(w:OZ h n0 f)(a:cy h){l:Option (Nat×Lo)}{c:Nat}(e:fx cU f l=Z c):c<h.ax:=by
 match l with
 |none=>cases e
 |some (i,l)=>
  have⟨q,h1,D⟩:=OO.1 e;exact(w.r q (cK h1)).lt a D
def OZ.go(w:OZ h n0 f)(a:cy h)(g:az S h m)(G:∀c,S c->c<n0\/h.ax<=c):OZ m n0 f:=
 ⟨λy P=>by
  have⟨i,F⟩:=iF P;refine(w.r y P).go a g λc l D e=>?_;have h1:fx cU f (Z (i,l))=Z c:=by rw[cJ F];exact e
  have:=w.new _ c h1;have:=w.lt a h1;have:=G c D;omega,w.inj,w.new⟩
def OZ.push(w:OZ h n0 f)(H:cy h)(g:az S h m)(d:∀c,S c->c<n0\/h.ax<=c)(i:n0<=h.ax)(x:BZ m y)(i:Bm False y.loc)(I:∀l c,y.loc l=Z c->h.ax<=c):OZ m n0 (f++[y]):=by
 have p:=w.go H g d;have d:∀(o:Option (Nat×Lo))(c:Nat),fx cU (f++[y]) o=Z c->(∃l,o=Z (Y f,l)/\y.loc l=Z c)\/fx cU f o=Z c:=λo c D=>by
  match o with
  |none=>cases D
  |some (k,l)=>
   rcases Nat.lt_trichotomy k (Y f) with e|e|e;refine ft ?_;simp only[fx] at D⊢;rw[Jf e] at D;exact D;subst e;exact fc ⟨l,Q,by simpa [fx] using D⟩;simp only[fx] at D;rw[xE (by simp;omega)] at D;cases D
 refine⟨λz g=>?_,λa b c N O=>?_,λo c e=>?_⟩;rcases jL.1 g with h|h;exact p.r z h;simp at h;subst h;exact x
 .rcases d a c N with⟨p,rfl,G⟩|G;rcases d b c O with⟨g,rfl,F⟩|F;exact(i p g c G F).imp (λh=>by rw[h]) id;have:=I p c G;have:=w.lt H F;omega
  .rcases d b c O with⟨g,rfl,F⟩|F;have:=I g c F;have:=w.lt H G;omega
   exact w.inj a b c G F
 rcases d o c e with⟨l,rfl,p⟩|p;have:=I l c p;omega;exact w.new o c p
def OZ.nil:OZ h n0 []:=⟨λy P=>by simp at P,λa b c e=>by match a with
 |none=>cases e
 |some (i,l)=>simp[fx] at e,λo c e=>by match o with
 |none=>cases e
 |some (i,l)=>simp[fx] at e⟩
def OZ.fz(w:OZ h n0 f)(A:eo eH h B f)(G:∀c,fy B=Z c->n1<=c/\c<n0)(I:n1<=n0):FZ h n1 B f/\xk B f:=by
 have d:∀(o:Option (Nat×Lo))(c:Nat),fx B f o=Z c->(o=K/\fy B=Z c)\/fx cU f o=Z c:=λo c H=>by
  match o with
  |none=>exact fc ⟨Q,H⟩
  |some (k,l)=>exact ft H
 have p:xk B f:=λa b c N O=>by
  rcases d a c N with⟨rfl,F⟩|F;rcases d b c O with⟨rfl,D⟩|D;exact fc rfl;have:=G c F;have:=w.new b c D;omega
  .rcases d b c O with⟨rfl,D⟩|D;have:=G c D;have:=w.new a c F;omega
   exact w.inj a b c F D
 refine⟨⟨A,w.r,λa b c N O=>(p a b c N O).imp id λh=>h.1.elim,λo c e=>?_⟩,p⟩;rcases d o c e with⟨rfl,p⟩|p;exact(G c p).1;exact wV I (w.new o c p)
def mkZ{M0 M1 N1 M2 N2:Nat}(w:cy h)(F:eo iE h y.P y.ps)(p:eo kh h y.L y.ls)(G:eo encI h y.T y.to)(f:pr GP.row h M1 y.ps)(d:pr GI.args h M2 y.ls)(g:∀c,fy y.P=Z c->M0<=c/\c<M1)(nR:∀q∈y.ps,∀c,fy q.2=Z c->c<N1)(H:∀c,fy y.L=Z c->N1<=c/\c<M2)(I:∀q∈y.ls,∀c,fy q.2=Z c->c<N2)(D:∀c,fy y.T=Z c->N2<=c)(h1:M0<=M1)(i:M1<=N1)(i:N1<=M2)(i:M2<=N2):BZ h y/\Bm False y.loc/\∀l c,y.loc l=Z c->M0<=c:=by
 have k:∀l c,y.loc l=Z c->(match l with|.P=>M0<=c/\c<M1|.R _=>M1<=c/\c<N1|.L=>N1<=c/\c<M2|.X _=>M2<=c/\c<N2|.T=>N2<=c):=λl c e=>by
  cases l with
  |P=>exact g c e
  |L=>exact H c e
  |T=>exact D c e
  |R j=>
   have⟨q,a,b⟩:=OO.1 e;exact⟨(f.lt w e).1,nR q (cK a) c b⟩
  |X j=>
   have⟨q,a,b⟩:=OO.1 e;exact⟨(d.lt w e).1,I q (cK a) c b⟩
 refine⟨⟨F,p,G,f.arr,d.arr⟩,λa b c N O=>?_,λl c e=>?_⟩;have p:=k a c N;have q:=k b c O;cases a<;>cases b<;>first|exact fc rfl|(exfalso;dsimp only at p q;omega)|exact fc (congrArg _ (f.inj _ _ c N O))|exact fc (congrArg _ (d.inj _ _ c N O))
 have p:=k l c e;cases l<;>dsimp only at p<;>omega
end
structure Hb(b:GB):Prop where
 lp:Y b.aP<100000
 ll:Y b.list<100000
 lr:∀p∈b.aP,Y p.row<100000
 la:∀x∈b.list,Y x.args<100000
 lt:Y b.to<100000
structure aeL(h0:aB)(y:YB)(b:GB):Prop where
 kind:y.kind=b.kind
 on:y.on=b.on
 P:ae (pR h0) 2 h0 y.P.v b.aP
 L:ae (iR h0) 8 h0 y.L.v b.list
 T:ae nR 1 h0 y.T.v b.to
def afe{e:α×G->α->Prop}{c:List (α×G)}{d:List α}(F:Y c=Y d)(H:∀(i:Nat)(y:α×G)(x:α),c[i]?=Z y->d[i]?=Z x->y.1=x/\e y x):c.map (·.1)=d/\∀y∈c,e y y.1:=by
 have k:∀(i:Nat)(y:α×G),c[i]?=Z y->d[i]?=Z y.1/\e y y.1:=λi y P=>by have w:=(cR.mp P).1;have⟨x,D⟩:=aR d i;have⟨a,b⟩:=H i y x P D;rw[D,a];exact⟨Q,b⟩
 refine⟨Bc λi=>?_,λy P=>?_⟩;rw[gu];rcases h:c[i]? with _|y;rw[ri] at h;exact(ri.2 J).symm;exact(k i y h).1.symm;have⟨i,w⟩:=iF P;exact(k i y w).2
def auq{p:List GP}(s:ae (pR h) 2 h v p):∃d:List (GP×SV),d.map (·.1)=p/\bj iE h v d/\∀q∈d,ae vR 2 h q.2.v q.1.row:=by have⟨d,D,F,H⟩:=ae.pick (E:=iE) (Q1:=λ(q:GP×SV) (p:GP)=>q.1=p/\ae vR 2 h q.2.v p.row) s (λc x ⟨A,e,w⟩=>⟨(x,A),e,Q,w⟩);have⟨a,b⟩:=afe D H;exact⟨d,a,F,b⟩
def atO{p:List GI}(s:ae (iR h) 8 h v p):∃d:List (GI×SV),d.map (·.1)=p/\bj kh h v d/\∀q∈d,ae vR 2 h q.2.v q.1.args:=by have⟨d,D,F,H⟩:=ae.pick (E:=kh) (Q1:=λ(q:GI×SV) (p:GI)=>q.1=p/\ae vR 2 h q.2.v p.args) s (λc x ⟨A,e,w⟩=>⟨(x,A),e,Q,w⟩);have⟨a,b⟩:=afe D H;exact⟨d,a,F,b⟩
def aq1{d:List GB}(s:ae (bR h) 6 h v d):∃f:List YB,Y f=Y d/\bj eH h v f/\∀(i:Nat)(y:YB)(b:GB),f[i]?=Z y->d[i]?=Z b->aeL h y b:=
 ae.pick (E:=eH) (Q1:=aeL h) s (λc x ⟨P,L,T,e,D,w,a⟩=>⟨⟨P,L,T,x.kind,x.on,[],[],[]⟩,e,Q,Q,D,w,a⟩)
def kG.fy{α:Type}{E:ly α}{h m:aB}{w:SV}{d:List α}(F:eo E m w d)(D:∀b,bD w.v b->h.ax<=b)(c:Nat)(a:Go.Proofs.YtdhnndleffachaaGreatDoor.fy w=Z c):h.ax<=c:=by rcases F.2 with⟨N,_⟩|⟨G,_,_,_,N,_⟩;simp[Go.Proofs.YtdhnndleffachaaGreatDoor.fy,N] at a;rw[cj N] at a;cases a;exact D _ (fK N)
def CyZ(h1:aB)(s F R:Nat)(N:SV)(k:List YB)(bs:List GB)(L:Nat)(e:Env)(m:aB):Prop:=
 ∃(j:Nat) (d:List YB),L=Y bs-j/\j<=Y bs/\Y d=j/\cg e 1 F/\cg e 2 R/\bX e 14=N.v/\bz e 15 (Y bs)/\bz e 16 j/\az (bD N.v) h1 m/\eo eH m N (d++k.drop j)/\OZ m s d/\d.map YB.g=bs.take j
def Qz(B:cy h0)(t:az aV h0 h1){X R H F:Nat}{p g:Int}{o:SV}{k:List YB}(U:eo eH h1 o k)(mj:Y k=Y bs)(P:∀(i:Nat)(y:YB)(b:GB),k[i]?=Z y->bs[i]?=Z b->aeL h0 y b)(E:∀b∈bs,Hb b)(M:Y bs<1000000)(f:∀b,bD o.v b->h0.ax<=b/\b≠X/\b≠R)(r:dR h1 X (aC name p g o) H)(p:dR h1 R [eT ⟨⟨[]⟩⟩,dC ef 0,dC ef 0,c6 K 0 0] F)(T:cg e 1 X)(z:cg e 2 R)(S:bX e 14=o.v)(u:bz e 15 (Y bs))(A:bz e 16 0)(C:∀g m d,cg g 1 X->cg g 2 R->az (bD o.v) h1 m->eo eH m o d->OZ m h1.ax d->d.map YB.g=bs->I (.exit 0) g m):aN FF (.loop wF) e h1 I:=by
 have M:=U.len;refine aN.loop (CyZ h1 h1.ax X R o k bs) ?_ (n:=Y bs) ⟨0,[],Q,J,Q,T,z,S,u,A,.refl t.ok,U,.nil,ag⟩;rintro L g m⟨j,d,rfl,g,hd,q1,q2,g,AD,Py,n,N,W,Md⟩;have L:=n.ok;have gg:az aV h0 m:=t.trans' n aj (λx v e=>aw ((f x e).1));have gM:=n.get t.ok r (λe=>(f X e).2.1 Q);have JA:=n.get t.ok p (λe=>(f R e).2.2 Q);have lB1:∀x,bD o.v x->x<h1.ax:=λx v=>U.bU t.ok v;have S:=t.ok.wf _ _ r;have z:=t.ok.wf _ _ p;have ln1:=n.ax;unfold wF;by_cases bp:j<Y bs
 .have wj:=bZ ((j:Int)+1) J J;have⟨b,O⟩:=aR bs j bp;have⟨y,hyj⟩:=aR k j;have f:=P j y b hyj O;have T:=E b (cK O);have E:=iN (qs:=k) hd;rw[hyj] at E;obtain⟨t,cs,oB,p,dY,wW,A,dM,A,eI⟩:=N.el E;have EI:=N.len;have anR:Y (d++k.drop j)=Y bs:=by simp;omega
  have k:=A 0 6 ai;simp[-ay] at k;simp at g;rw[dY,EI,anR] at g;have E:=ae.len f.P;have S:=ae.len f.L;have z:=ae.len f.T;simp[g,AD,Py,bp,k,-ay,aJ];refine bm.cut (λA=>az aV m A/\(c_ A m.ax [y.P.v,y.L.v,dC ef y.kind,dd y.on.1,dC ef y.on.2,y.T.v])) ⟨(az.refl L).var _ _,_,bc _ _ _ _ _ _⟩ ?_;rintro A⟨g2,D,k⟩;have V:=gg.trans g2;have u:m.ax<A.ax:=V.ok.wf _ _ k;have⟨E,xI,p,S⟩:=auq f.P;have r:Y E=Y b.aP:=by rw[<-xI];simp
  refine bm.call (V:=kG iE A E) (ak (mo iE (bytes:=32) qU Q ai V.ok (p.cr B V) (aw T.lp))) ?_;rintro _ z⟨g3,a,rfl,hP3,U,_⟩;have s:=g3.get V.ok k;have eS:=V.trans g3;have k:=hP3.len;have nP:=kG.fy hP3 U;simp at s;simp[s,k,r];refine aN.cut (λu=>az (· =m.ax) z u/\(c_ u m.ax [a.v,y.L.v,dC ef y.kind,dd y.on.1,dC ef y.on.2,y.T.v])) ?_ ?_
  refine⟨aX eS.ok s,z.clock,?_⟩;rw[bc];simp[k,r,bg];rintro u⟨g4,w,iG⟩;have M:az aV h0 u:=eS.trans' g4 aj (λx v e=>aw gg.ax);have s:eo iE u a E:=hP3.grow eS.ok g4 (λb O e=>aw (U b O));have p:=g3.ax;have z:=g4.ax;have p:∀q∈E,q.1∈b.aP:=λq z=>by rw[<-xI];exact iT.2 ⟨q,z,Q⟩
  refine WW B M s (λq z=>⟨S q z,aw (T.lr _ (p q z))⟩) (aw T.lp) (λb O=>⟨by have:=U b O;have:=V.ax;omega,aw (U b O)⟩) iG ag (by simp[k,r]) (av r) ag ?_;intro E S d5 r g5 nC hP5 R5 M5;have s:=M.ok;have p:az aV h0 S:=M.trans' g5 aj (λx v e=>by have:=U x e;have:=V.ax;omega);have k1:=r.at (t:=1) (aq q1);have k2:=r.at (t:=2) (aq q2);have k3:bX E 3=dC ef j:=r.at ag;have k:cg E 4 m.ax:=r.at ag;have k14:=r.at (t:=14) (aq g);have k15:=r.at (t:=15) (aq AD);have k16:=r.at (t:=16) (aq Py);have s:=g5.ax;simp at nC;simp[k,nC];have⟨E,hx0,r,aBf⟩:=atO f.L;have g:Y E=Y b.list:=by rw[<-hx0];simp
  refine bm.call (V:=kG kh S E) (ak (mo kh (bytes:=80) qT Q ai p.ok (r.cr B p) (aw T.ll))) ?_;rintro _ h6⟨g6,G,rfl,Sr,s,_⟩;have V:=g6.get p.ok nC;have gg6:=p.trans g6;have M:=Sr.len;have nL:=kG.fy Sr s;simp[k,V,M,g];refine aN.cut (λr=>az (· =m.ax) h6 r/\(c_ r m.ax [a.v,G.v,dC ef y.kind,dd y.on.1,dC ef y.on.2,y.T.v])) ?_ ?_
  refine⟨aX gg6.ok V,h6.clock,?_⟩;rw[bc];simp[M,g,bg];rintro r⟨V,s7,Su⟩;have gg7:az aV h0 r:=gg6.trans' V aj (λx v e=>aw gg.ax);have hL7:eo kh r G E:=Sr.grow gg6.ok V (λb O e=>aw (s b O));have l6:=g6.ax;have l7:=V.ax;have xm:∀q∈E,q.1∈b.list:=λq z=>by rw[<-hx0];exact iT.2 ⟨q,z,Q⟩
  refine WV B gg7 (kind:=y.kind) (on:=y.on) (P:=a) (T:=y.T) hL7 (λq z=>⟨aBf q z,aw (T.la _ (xm q z))⟩) (aw T.ll) (λb O=>⟨by have:=s b O;have:=p.ax;omega,aw (s b O)⟩) Su (av k) (by simp[M,g]) (av g) ag ?_;intro e8 M d8 E g8 XB hL8 R8 M8;have g:=gg7.ok;have g:az aV h0 M:=gg7.trans' g8 aj (λx v e=>by have:=s x e;have:=p.ax;omega);have m1:=E.at (t:=1) (aq k1);have m2:=E.at (t:=2) (aq k2);have m3:bX e8 3=dC ef j:=E.at (aq k3);have m4:cg e8 4 m.ax:=E.at (aq k);have m14:=E.at (t:=14) (aq k14);have m15:=E.at (t:=15) (aq k15);have m16:=E.at (t:=16) (aq k16);simp at XB;simp[m4,XB];refine bm.call (V:=kG encI M b.to) (ak (mo encI (bytes:=8) pS Q ai g.ok ((LR f.T).cr B g) (aw T.lt))) ?_;rintro _ E⟨B,k,rfl,hT9,hTn,_⟩;have hX9:=B.get g.ok XB;have T:=g.trans B;have l8:=g8.ax;have l9:=B.ax;have nT:=kG.fy hT9 hTn;have g58:az (λc=>c=m.ax\/S.ax<=c) S M:=(g6.cr.trans' V aj (λx _ e=>fc e)).trans' g8 aj (λx _ e=>ft (aw (s x e)));have hP8:eo iE M a d5:=hP5.grow p.ok g58 (λb O e=>by have:=U b O;have:=hP5.bU p.ok O;omega);have s:pr GP.row M u.ax d5:=R5.go p.ok g58 (λc e=>J);have⟨Y',Yi,V⟩:=mkZ (y:=⟨a,G,k,y.kind,y.on,d5,d8,b.to⟩) (M0:=A.ax) (M1:=u.ax) (N1:=S.ax) (M2:=r.ax) (N2:=M.ax) T.ok (hP8.cr g.ok B) (hL8.cr g.ok B) hT9 (s.cr g.ok B) (R8.cr g.ok B) (λc M=>⟨nP c M,aw (hP3.lt eS.ok M)⟩) (λq z c M=>(R5.arr q z).lt p.ok M) (λc M=>⟨nL c M,aw (Sr.lt gg6.ok M)⟩) (λq z c M=>(R8.arr q z).lt g.ok M) nT J J J J;have s:az aV m E:=by have p:az aV m u:=(g2.trans g3).trans' g4 aj (λx v e=>J);have A:az aV m S:=p.trans' g5 aj (λx v e=>aw (U x e));exact(A.trans' g58 aj (λx v e=>J)).trans B
  have z:=s.get L gM;have p:=s.get L JA;have B:=s.get L wW;simp[aC] at z;rw[dY,EI,anR] at z;have u:=(L.bU wW).lt;have p:=(L.bU gM).lt;have U:¬X=m.ax:=J
  have S:¬t=m.ax:=J
  have g:=dM 0 6 ai;simp at g;simp[m1,m3,m4,m16,hX9,z,U,S,bp,B,g,wj];have r:=aX (off:=5) (vs:=[c6 k.a k.l k.c]) T.ok hX9;have g:=r.get T.ok B S;have U:=eI ⟨a,G,k,y.kind,y.on,d5,d8,b.to⟩ 0 [c6 a.a a.l a.c,c6 G.a G.l G.c,dC ef y.kind,dd y.on.1,dC ef y.on.2,c6 k.a k.l k.c] ag rfl;generalize put E m.ax 5 _ _ 0=KS at*;have S:=aX (off:=j*6) (vs:=[c6 a.a a.l a.c,c6 G.a G.l G.c,dC ef y.kind,dd y.on.1,dC ef y.on.2,c6 k.a k.l k.c]) r.ok g;have p:=U (put KS t (j*6) cs [c6 a.a a.l a.c,c6 G.a G.l G.c,dC ef y.kind,dd y.on.1,dC ef y.on.2,c6 k.a k.l k.c] oB) ⟨_,bc _ _ _ _ _ _⟩;generalize put KS t (j*6) _ _ oB=h11 at*;rw[set_drop hd hyj] at p;have gS:az (λx=>x=m.ax\/x=t) E h11:=r.trans' S (λ_ _ h=>fc h) (λ_ _ h=>ft h);have A:=lB1 t (fK dY);have u:az (bD o.v) m h11:=s.trans' gS (λ_ _ h=>h.elim) (λx v h=>by rcases h with rfl|rfl;omega;exact fK dY)
  refine⟨Y bs-(j+1),J,j+1,d++[⟨a,G,k,y.kind,y.on,d5,d8,b.to⟩],Q,bp,av hd,av m1,av m2,by simp[m14,dY,EI,anR],by simp[m15],ag,n.trans u,p,W.push L u (λc M=>aw (lB1 c M)) ln1 (Y'.go T.ok gS λc l M e=>aw (V l c e)) Yi (λl c e=>aw (V l c e)),?_⟩;rw[aW,Md,mw,O];simp only[zZ,List.map_nil,YB.g,M5,xI,M8,hx0,f.kind,f.on];rfl
 .have:j=Y bs:=J
  subst this;rw[<-mj] at N;simp at N Md;simp[AD,Py];exact C _ _ d (av q1) (av q2) n N W Md
def js(name:ByteArray)(p r:Int)(bs:List GB)(h:aB)(v:aa)(m:aB):Prop:=
 az aV h m/\∃(d:SV) (k:List YB),v=eU ⟨aC name p r d⟩/\FZ m h.ax d k/\xk d k/\k.map YB.g=bs
def WU(l:cy h){name:ByteArray}{p r:Int}(k:mm h B bs)(q:∀b∈bs,Hb b)(t:Y bs<1000000):aY FF 69 [eU ⟨aC name p r B⟩] h (js name p r bs h):=by
 refine aY.of Qh ?_;unfold Fz;simp[aC];refine bm.cut (λh1=>az aV h h1/\h1.tr.get h.ax=Z (.ch (aC name p r B) b9 0 0)/\h1.tr.get (h.ax+1)=Z (.ch [eT ⟨⟨[]⟩⟩,dC ef 0,dC ef 0,c6 K 0 0] b9 0 0)) ?_ ?_;exact⟨((az.refl l).new _ _).new _ _,by simp[aC],ag⟩;rintro h1⟨w,n,j⟩;have⟨g,m,f,P⟩:=aq1 k;refine bm.call (V:=kG eH h1 g) (ak (mo eH (bytes:=96) oy Q ai w.ok (f.cr l w) J)) ?_;rintro _ g⟨H,f,rfl,k,a,_⟩;have I:=w.trans H;have i:=H.get w.ok n;have u:=H.get w.ok j;have n:=w.ok.wf _ _ j;have s:=k.len;simp[aC] at i;simp[i];refine aN.cut (λj=>az (· =h.ax) g j/\(c_ j h.ax (aC name p r f))) ?_ ?_
 refine⟨aX I.ok i,g.clock,?_⟩;rw[bc];simp[aC,bg];rintro j⟨i,D,n⟩;have g:az aV h j:=I.trans' i aj (λx o e=>J);have F:=k.grow I.ok i (λb O e=>aw (a b O));have j:=i.get I.ok u J;have u:=i.ax;have u:=H.ax;refine Qz l g F m P q t (λb O=>⟨aw (a b O),aw (a b O),aw (a b O)⟩) n j ag ag ag (by simp[s,m]) ag ?_;intro s N d t v l s u q;have G:az aV h N:=g.trans' l aj (λx o e=>aw (a x e));have m:=l.get g.ok n (λe=>aw (a _ e));have i:=l.get g.ok j (λe=>aw (a _ e));simp[aC] at m;simp[t,v,m,i];have gR:az (· =h.ax+1) N (put N (h.ax+1) 0 [eT ⟨⟨[]⟩⟩,dC ef 0,dC ef 0,c6 K 0 0] [eT name,dC ef p,dC ef r,c6 f.a f.l f.c] 0):=aX G.ok i;have t:=u.go G.ok gR (λb e=>J);have i:=s.grow G.ok gR (λb O e=>aw (a b O));have⟨m,s⟩:=t.fz (n1:=h.ax) i (λc i=>⟨aw (kG.fy k a c i),aw (F.lt g.ok i)⟩) J;exact⟨G.trans' gR aj (λx o e=>J),f,d,Q,m,s,q⟩
def aoT:List Nat:=[13,34,35,36,78,79,80,81,82,83,84,85,86,87,88,89,101,132,138,139,140,141,142,143,144,145,146,147,148,149,150,192,193,199,200,201,202,203,204,205,206,207,208,209,210,211,246]
def aoS(f:Nat):Bool:=aoT.any (Nat.beq f)
def akp{f:Nat}(h:aoS f=cd):f∈aoT:=by have⟨x,a,e⟩:=List.any_eq_true.1 h;rw[qm e];exact a
def aoU(a:0<h0.ax)(w:h0.ax<=N.ax):Ob (xR h0 N O aoS a w) FF:=amd aoT (λ_ h=>akp h) (by kernel_rfl)
def R7(C:JV h0)(H:cy h0)(I:0<h0.ax)(b:az aV h0 N)(d:az aV N O){G F:SV}(f:Hh h0)(g:uR h0 G F u)(h:Hf u)(e:oD h0.ax G.v/\oD h0.ax F.v){c a:Int}(D:aY FF 13 [eU ⟨[G.v,F.v]⟩] N (λv _=>v=eU ⟨[dC ef c,dC ef a]⟩)):aY FF 13 [eU ⟨[G.v,F.v]⟩] O (λv m=>v=eU ⟨[dC ef c,dC ef a]⟩/\zG (Dx u) O v m):=by
 have w:=b.trans d;refine(frame aoS I C H b d (aoU I b.ax) (f:=13) Q (λv b=>?_) Q D).both (IX w.ok (f.grow H w) (g.mono H w) h);simp at b;subst b;exact ft ⟨_,Q,λc b=>by simp at b;rcases b with rfl|rfl;simpa using e.1;simpa using e.2⟩
end Go.Proofs.YtdhnndleffachaaGreatDoor
