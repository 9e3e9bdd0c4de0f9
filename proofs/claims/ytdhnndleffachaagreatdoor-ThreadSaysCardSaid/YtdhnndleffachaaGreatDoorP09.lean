/- Parts of the proof. -/
import Derived.Test.YtdhnndleffachaaGreatDoorP08
import Derived.Test.YtdhnndleffachaaGreatDoorP04
open Option renaming some->Z
open Bool renaming false->b9,true->cd
open List renaming length->Y
open Go.Value renaming bool->dd,int->dC,agg->eU
open Go.IntKind renaming i64->ef
open Or renaming inl->fc,inr->ft
set_option linter.all false
set_option maxHeartbeats 1000000
namespace Go.Proofs.YtdhnndleffachaaGreatDoor
open Go.AI
variable{h:aB}
def Vu(b:cy h)(c a:Int):aY FF 46 [dC ef c,dC ef a] h (λv d=>v=eU ⟨[dC ef c,dC ef a]⟩/\az aV h d):=by refine aY.of Df ?_;unfold uu;simp[bg];exact(az.refl b).var _ _
def akH(P:mC)(d:List GG)(a:List GF)(h:aB)(G F:SV)(c b:Int):Prop:=
 (∃k:Nat,c=10/\b=k/\G=cU/\F=cU/\alM P a k)\/(c=0/\b=0/\∃b,uR h G F ⟨d,b⟩/\Ij (PL P) a b)
section
variable{P:mC}{g v:List GF}{j k:Nat}
def HW(R:Ij (PV P) g v)(c:j<Y g):∃(f w:GF) (r:Nat×List GB),g[j]?=Z f/\v[j]?=Z w/\PV P f r/\w=⟨f.name,f.params,r.1,r.2⟩:=by have⟨f,b⟩:=aR g j c;have⟨w,a⟩:=aR v j (by rw[R.1];exact c);have⟨r,e,d⟩:=R.2 j f w b a;exact⟨f,w,r,b,a,e,d⟩
def aeB(v:List GF)(j:Nat)(b:Bool):Prop:=∀w:GF,v[j]?=Z w->jy w.aF w.blocks=b
def aeS(R:Ij (PV P) g v)(B:alM P g k):k<Y g/\aeB v k cd/\∀i,i<k->aeB v i b9:=by
 have⟨f,a,d,p,l,n⟩:=B;have o:=(cR.mp d).1;refine⟨o,λw b=>?_,λi y w b=>?_⟩
 obtain⟨r,c,rfl⟩:=R.2 k f w d b;cases c.1 a p;exact l;obtain⟨m,A,r,c,e,u,rfl⟩:=HW R (show i<Y g by omega);rw[b] at e;cases e;have⟨t,s,q⟩:=n i m y c;cases u.1 t s;exact q
def aaD{d:List GF}(R:Ij (PV P) g v)(M:Ij (PL P) g d):d=v/\∀i,i<Y g->aeB v i b9:=by
 have c:∀i,i<Y g->∃w,v[i]?=Z w/\d[i]?=Z w/\jy w.aF w.blocks=b9:=λi a=>by obtain⟨f,w,r,b,m,q,rfl⟩:=HW R a;have⟨o,e⟩:=aR d i (by rw[M.1];exact a);obtain⟨d,⟨p,l⟩,rfl⟩:=M.2 i f o b e;cases q.1 d p;exact⟨_,m,e,l⟩
 refine⟨Bc λi=>?_,λi a w n=>?_⟩;rcases Bb i (Y g) with a|a;have⟨w,b,m,_⟩:=c i a;rw[b,m];rw[xE (by rw[M.1];exact a),xE (by rw[R.1];exact a)];have⟨s,b,_,l⟩:=c i a;rw[n] at b;cases b;exact l
end
def GvI(b:aB)(X:Nat)(a:List GF)(m:Nat)(e:Env)(i:aB):Prop:=
 ∃j:Nat,m=Y a-j/\j<=Y a/\cg e 5 X/\cg e 6 (X+1)/\cg e 7 (X+2)/\bz e 9 j/\az aV b i/\∀i,i<j->aeB a i b9
def Xr(I:cy h){P':mC}{G0 F0 N F Gw Fw:SV}{p:List GG}{c a:List GF}{x s:Int}(T':akH P' p c h N F x s)(R:Ij (PV P') c a)(d:uR h Gw Fw ⟨p,a⟩)(hgl:Y p<=10)(Ac:∀g∈p,Y g.init<1000000)(np:Y c<=10):aY FF 19 [eU ⟨[G0.v,F0.v]⟩,eU ⟨[N.v,F.v]⟩,eU ⟨[dC ef x,dC ef s]⟩,eU ⟨[Gw.v,Fw.v]⟩] h (Sp h):=by
 have l1:=ae.len d.2;have wl:=R.1;dsimp only at l1;refine aY.of C0 ?_;unfold ua;have n1:¬h.ax=h.ax+1:=J
 simp[n1];refine aN.cut (λy=>az aV h y/\(c_ y (h.ax+1) [N.v,F.v])/\(c_ y (h.ax+1+1) [dC ef x,dC ef s])/\c_ y (h.ax+1+2) [Gw.v,Fw.v]) ⟨((((az.refl I).new _ _).new _ _).new _ _).new _ _,⟨0,ag⟩,⟨0,ag⟩,0,ag⟩ ?_;rintro y⟨H,⟨s1,hV⟩,⟨s2,hA⟩,s3,hX⟩;refine aN.loop (GvI y (h.ax+1) a) ?_ (n:=Y a) ⟨0,Q,J,ag,ag,ag,ag,.refl H.ok,λi m=>J⟩;rintro m' e o⟨j,rfl,hj,T,W,E,O,g,G⟩;have S:=g.ok;have A:=H.trans g;have V:=g.get H.ok hV;have P:=g.get H.ok hA;have U:=g.get H.ok hX;simp at V P U;rw[l1] at U;unfold qG;by_cases bp:j<Y a
 .have wj:=bZ ((j:Int)+1) J J;obtain⟨u,w,r,_,l,f,rfl⟩:=HW R (show j<Y c by omega);obtain⟨bF,aBW,cF,Fi,_,_,⟨B,rfl,sB⟩,oF,cV⟩:=ae.later I d.2 l;have r0:=cV o A 0 4 ai;simp[-ay] at r0;have fh:=U;rw[Fi] at fh;simp[E,O,fh,aD fh,bp,r0,-ay];have N':∀t',aeB a j t'->jy r.1 r.2=t':=λt' h=>h _ l;refine bm.call (V:=λv q=>az aV o q/\v=dd (jy r.1 r.2)) (by simpa [aC] using U9 S (name:=u.name) (p:=u.params) (r:=r.1) (mm.mono sB I A) (by have:=f.2.2.1;dsimp only;omega) (by have:=f.2.2.2;dsimp only;omega)) ?_;rintro _ q⟨b,rfl⟩;have iL:=A.trans b;cases t:jy r.1 r.2
  .simp[O,wj];refine⟨Y a-(j+1),J,j+1,Q,bp,av T,av W,av E,ag,g.trans b,λi m w d=>?_⟩;rcases Bb i j with k|k;exact G i k w d
   .obtain rfl:i=j:=J
    rw[l] at d;cases d;exact t
  .rcases T' with⟨k,rfl,rfl,rfl,rfl,B⟩|⟨_,_,Ga,_,M⟩
   .have⟨L,z,ln⟩:=aeS R B;have h3':=l;clear l;have ek:k=j:=by
     rcases Nat.lt_trichotomy k j with e|e|e;have⟨_,w,_,_,d,_⟩:=HW R L;have:=G k e w d;rw[z w d] at this;cases this
     exact e;have:=N' b9 (ln j e);rw[t] at this;cases this
    subst ek;have D:=b.get S P;have X:=b.get S V;have oA:=b.ok.bU D;have oV:=b.ok.bU X;have sA:=b.ok.st _ _ _ _ _ D;have sV:=b.ok.st _ _ _ _ _ X;simp[W,O,D,aD D,oA,aK,-ay];have C:=bk b.ok;generalize tick q=l at*;have Jz:=C.get b.ok D;have hV3:=C.get b.ok X;refine ck.call (V:=λv o=>v=eU ⟨[dC ef 10,dC ef (k:Int)]⟩/\az aV l o) (ak (Vu C.ok 10 k)) ?_;rintro _ h4⟨rfl,n⟩;have ZE:=n.get C.ok Jz;have hV4:=n.get C.ok hV3;simp[T,W,ZE,hV4,sA,sV];refine ck.call (V:=λv o=>v=dd cd/\az aV h4 o) (by simpa [cU] using Pm n.ok cU cU) ?_;rintro _ h5⟨rfl,g5⟩;simp;exact⟨((iL.trans C).trans n).trans g5,Q⟩
   have:=N' b9 ((aaD R M).2 j J);rw[t] at this;cases this
 .have:j=Y a:=J
  subst this;rcases T' with⟨k,rfl,rfl,rfl,rfl,B⟩|⟨rfl,rfl,Ga,v,M⟩;have⟨L,z,_⟩:=aeS R B;have⟨_,w,_,_,d,_⟩:=HW R L;have:=G k J w d;rw[z w d] at this;cases this
  obtain⟨rfl,_⟩:=aaD R M;simp[T,W,E,O,P,V,U];refine bm.call (V:=Sp o) (by simpa [l1] using VA S (v.mono I A) (d.mono I A) (by dsimp only;omega) (λg t=>aw (Ac g t)) (by dsimp only;omega) (λu t=>by have⟨i,m⟩:=iF t;obtain⟨n,w,r,_,l,f,rfl⟩:=HW R (show i<Y c by have:=(cR.mp m).1;dsimp only at this;omega);dsimp only at m;rw[m] at l;cases l;exact⟨f.2.1,by have:=f.2.2.1;dsimp only;omega⟩)) ?_;rintro _ q⟨b,rfl⟩;simp;exact⟨A.trans b,Q⟩
def Jr(E:cy h)(cl:JV h)(hn:0<h.ax)(hw:Hh h){G F:SV}{u:GU}(O:uR h G F u)(s1:Small u)(sm:Hf u)(nD:oD h.ax G.v/\oD h.ax F.v):aY FF 4 [eU ⟨[G.v,F.v]⟩] h (λv _=>v=dd cd):=by
 have yC:=ae.len O.2;refine aY.of xZ ?_;unfold nr;simp;refine bm.cut (λP=>az aV h P/\P.tr.get h.ax=Z (.ch [G.v,F.v] b9 0 0)) ⟨(az.refl E).new _ _,ag⟩ ?_;rintro P⟨S,hU1⟩;refine bm.call (V:=λv y=>az aV P y/\∃B:Bool,v=dd B/\(B=b9->Y u.funcs<=10/\∀i∈u.funcs,ZP i)) (ak (XK S.ok (O.mono E S) s1)) ?_;rintro _ h2⟨w,B,rfl,hL⟩;have z:=S.trans w;have ID:=w.get S.ok hU1;have QU:=ID;simp at QU;cases B with
 |true=>simp
 |false=>
 obtain⟨q,hL⟩:=hL rfl;simp[QU];obtain⟨r,o,Ld⟩:∃r o:Int,aY FF 13 [eU ⟨[G.v,F.v]⟩] h2 (λv _=>v=eU ⟨[dC ef r,dC ef o]⟩):=by obtain⟨n,v,y,W,_,c,g,rfl,_⟩:=IX w.ok (hw.grow E z) (O.mono E z) sm;exact⟨c,g,n,_,y,W,Q⟩
 have o':∀W,az aV h2 W->aY FF 13 [eU ⟨[G.v,F.v]⟩] W (λv y=>v=eU ⟨[dC ef r,dC ef o]⟩/\zG (Dx u) W v y):=λW j=>R7 cl E hn z j hw O sm nD Ld;refine bm.call (V:=DoZ J1 u r o h2) (ak (adG w.ok (O.mono E z) o')) ?_;rintro _ m⟨n,G',F',c,g,rfl,t⟩;have V:=n.get w.ok ID;have lU:=n.ok.wf _ _ V;have eS:=z.trans n;have n1:¬m.ax=m.ax+1:=J
 have n2:¬h.ax=m.ax:=J
 have n3:¬h.ax=m.ax+1:=J
 have asm:=V;simp at asm;simp[n1,n2,n3,asm];refine bm.cut (λI=>az aV m I/\I.tr.get h.ax=Z (.ch [G.v,F.v] b9 0 0)/\(c_ I m.ax [G'.v,F'.v])/\(c_ I (m.ax+1) [dC ef c,dC ef g])/\I.ax=m.ax+2) ?_ ?_;refine⟨((((az.refl n.ok).new _ _).new _ _).put ⟨0,av n1⟩ (fc J)).put ⟨0,ag⟩ (fc J),by simp[n2,n3,V],⟨m.clock,by simp[n1,bg]⟩,⟨m.clock+1,by simp[bg]⟩,ag⟩;rintro I⟨f,hU4,⟨sV,hV4⟩,⟨sA,hA4⟩,nx4⟩;have pT:=eS.trans f;refine bm.call (V:=λv y=>v=eU ⟨[dC ef r,dC ef o]⟩/\zG (Dx u) I v y) (ak (o' I (n.trans f))) ?_;rintro _ k⟨rfl,p,_⟩;have uz:=pT.trans p;have T:=p.get f.ok hU4;have M:=p.get f.ok hV4;have GW:=p.get f.ok hA4;have l5:=p.ax;have m1:¬m.ax=k.ax:=J
 have m2:¬m.ax+1=k.ax:=J
 have m3:¬h.ax=k.ax:=J
 simp at T M GW;rcases t with⟨IF,rfl,rfl,rfl,rfl⟩|⟨rfl,rfl,b,U⟩
 .have x:(c !=0)=cd:=by simp[IF]
  simp[cU] at M;simp[x,GW,M,m1,m2];refine bm.cut (λD=>az aV k D) ((az.refl p.ok).var _ _) ?_;intro D H;refine bm.call (V:=λv y=>v=dd cd/\az aV D y) (by simpa [cU] using Pm H.ok cU cU) ?_;rintro _ a⟨rfl,s⟩;simp
 .simp[T,m3];refine bm.cut (λD=>az aV k D) ((az.refl p.ok).var _ _) ?_;intro D H;have N':=uz.trans H;have hgs:∀j∈u.globals,Y j.init<1000000:=λj hg=>aw (b.unit.gs j hg)
  refine bm.call (V:=RuQ u D) (ak (Zi H.ok (O.mono E N') b.unit.gn hgs b.unit.fn (λi x=>⟨(b.form i x).Jg,aw ((b.form i x).head.blocks)⟩))) ?_;rintro _ a⟨s,Gw,x,zs,rfl,hW7,hz7,A,hG7⟩;have gg7:=N'.trans s;have l6:=H.ax;have l7:=s.ax;have hU7:=s.get H.ok (H.get p.ok T λh=>h);have m4:¬h.ax=a.ax:=J
  simp[hU7,m4];refine aN.cut (λh8=>az aV a h8/\c_ h8 a.ax [Gw.v,x.v]) ⟨(az.refl s.ok).var _ _,a.clock,by simp[bg]⟩ ?_;rintro h8⟨g8,sX,XB⟩;have V0:=gg7.trans g8;have d:=g8;have gg9:=V0;have hU9:=d.get s.ok hU7;have hX9:=XB;have ZE:∀c,bD x.v c->c<a.ax:=λc t=>hW7.bU s.ok t;refine VG E gg9 O.2 b.form q (hW7.cr s.ok d) hz7 (λc t=>by have:=A c t;have:=N'.ax;omega) (U:=h.ax) (X:=a.ax) (G:=G) (ak hU9) hX9 (λe=>aw (A _ e)) (λe=>aw (ZE _ e)) ag ag ag ?_;intro N q zs10 C l azr aAa D10;have k1:cg N 1 h.ax:=C.at ag;have k3:cg N 3 m.ax:=C.at ag;have k4:cg N 4 (m.ax+1):=C.at ag;have k6:cg N 6 a.ax:=C.at ag;have L:∀c,c<D.ax->¬bD x.v c:=λc t e=>aw (A c e)
  have Q1:=((H.trans s).trans d);have asl:=l.get d.ok hU9 (L _ J);have azp:=l.get d.ok (Q1.get p.ok M λh=>h) (L _ J);have ayN:=l.get d.ok (Q1.get p.ok GW λh=>h) (L _ J);have asu:=l.get d.ok hX9 (λe=>aw (ZE _ e));simp at asl asu;simp[k1,k3,k4,k6,asl,azp,ayN,asu];have G3:az aV m q:=((f.trans p).trans Q1).trans' l aj λc t e=>L c J e;obtain⟨ws,hws,R⟩:=Pd l.ok azr (M:=D.ax) (λX W=>A X W) aAa (λi' z' i g X=>by obtain⟨n0,ys,many,hM,r'⟩:=D10 i' z' i g X;exact⟨n0,ys,many,aw d.ax,r'⟩)
  have T':akH J1 u.globals u.funcs q G' F' c g:=by rcases U with U|⟨e1,e2,Ga,hs,M'⟩;exact fc U;exact ft ⟨e1,e2,Ga,hs aV q G3 (λ_ h=>h.elim),M'⟩
  have V10:uR q Gw x ⟨u.globals,ws⟩:=⟨hG7 (bD x.v) q (d.cr.trans l) (λc t=>fc t),hws aV q (.refl l.ok) (λ_ h=>h.elim)⟩;refine bm.call (V:=Sp q) (ak (Xr (G0:=G) (F0:=F) l.ok T' R V10 b.unit.gn hgs b.unit.fn)) ?_;rintro _ h11⟨g11,rfl⟩;simp
end Go.Proofs.YtdhnndleffachaaGreatDoor
