/- Parts of the proof. -/
import Derived.Test.YtdhnndleffachaaGreatDoorP07
import Derived.Test.YtdhnndleffachaaGreatDoorP04
set_option linter.all false
set_option maxHeartbeats 1000000
namespace Go.Proofs.YtdhnndleffachaaGreatDoor
open Go.AI
variable{F F0 G G' G0:SV}{QQ:bK->Env->az->Prop}{U X n p sU sX:Nat}{aI:Int}{b:GB}{bs g g':List GB}{e:Env}{fs:List GF}{gs:List GG}{h h0:az}{u:GU}
def Pf(h:az)(v:Value)(h':az):Prop:=ay aZ h h'/\v=.bool true
def SmI(A A':SV)(n:Nat)(h:az)(m:Nat)(e:Env)(h':az):Prop:=
 ∃j:Nat,m=n-j/\j<=n/\bH e 0=A.v/\bH e 1=A'.v/\bJ e 5 j/\ay aZ h h'
section
variable{h:az}{A A':SV}
def JR(t:cr h){xs:List Int}(s:aD nR 1 h A.v xs)(w:aD nR 1 h A'.v xs)(Y:xs.length<10000000):bc FF 154 [A.v,A'.v] h (Pf h):=by
 have i:=aD.len s;have l:=aD.len w;refine bc.of Cn ?_;unfold tU;simp[i,l];refine aO.loop (SmI A A' xs.length h) ?_ (n:=xs.length) ⟨0,rfl,ab,au i,au l,ae,.refl t⟩;rintro m e C⟨j,rfl,Z,a,d,D,g⟩;simp at a d;rw[i] at a;rw[l] at d;unfold qQ;by_cases q:j<xs.length
 have J:=cg ((j:Int)+1) ab ab;obtain⟨x,E⟩:=aV xs j q;obtain⟨b,off,c,I,_,_,rfl,o,O⟩:=aD.later t s E;obtain⟨V,W,S,H,_,_,rfl,N,Q⟩:=aD.later t w E;have r:=O C g 0 1 ag;have y:=Q C g 0 1 ag;simp[-ax] at r y;rw[I] at a;rw[H] at d;have M:=g.cn o;have K:=g.cn N;simp[a,d,D,q,r,y,M,K,J,aQ,-ax];exact⟨xs.length-(j+1),ab,j+1,rfl,q,by simp[a,I,i],by simp[d,H,l],ae,by first|exact g.tick|exact g⟩
 simp[a,D,q,show j=xs.length by omega];exact⟨g,rfl⟩
def J0(t:cr h){xs:List (Bool×Int)}(s:aD vR 2 h A.v xs)(w:aD vR 2 h A'.v xs)(Y:xs.length<10000000):bc FF 212 [A.v,A'.v] h (Pf h):=by
 have i:=aD.len s;have l:=aD.len w;refine bc.of Cp ?_;unfold tW;simp[i,l];refine aO.loop (SmI A A' xs.length h) ?_ (n:=xs.length) ⟨0,rfl,ab,au i,au l,ae,.refl t⟩;rintro m e C⟨j,rfl,Z,a,d,D,g⟩;simp at a d;rw[i] at a;rw[l] at d;unfold qR;by_cases q:j<xs.length
 have J:=cg ((j:Int)+1) ab ab;obtain⟨x,E⟩:=aV xs j q;obtain⟨b,off,c,I,_,_,rfl,o,O⟩:=aD.later t s E;obtain⟨V,W,S,H,_,_,rfl,N,Q⟩:=aD.later t w E;have r:=O C g 0 2 ag;have y:=Q C g 0 2 ag;simp[-ax] at r y;rw[I] at a;rw[H] at d;have M:=g.cn o;have K:=g.cn N;simp[a,d,D,q,r,y,M,K,J,aQ,-ax];exact⟨xs.length-(j+1),ab,j+1,rfl,q,by simp[a,I,i],by simp[d,H,l],ae,by first|exact g.tick|exact g⟩
 simp[a,D,q,show j=xs.length by omega];exact⟨g,rfl⟩
def ZO(c:cr h){x:GI}(s:aD vR 2 h A.v x.args)(i:aD vR 2 h A'.v x.args)(l:x.args.length<10000000):bc FF 213 [.agg ⟨fN x A⟩,.agg ⟨fN x A'⟩] h (Pf h):=by
 refine bc.of DC ?_;unfold vp;have m:¬h.aw=h.aw+1:=ab
 simp[fN,aJ,m];refine bm.cut (fun h1=>ay aZ h h1) (((ay.refl c).new _ _).new _ _) ?_;intro h1 a;refine bm.call (V:=Pf h1) (aj (J0 a.ok (s.mono c a fun _ _ r=>r) (i.mono c a fun _ _ r=>r) l)) ?_;rintro _ o⟨d,rfl⟩;simp;exact⟨a.trans d,rfl⟩
end
def SbI(h1:az)(X k n m:Nat)(e:Env)(h':az):Prop:=
 ∃j:Nat,m=n-j/\j<=n/\cm e 2 X/\cm e 3 (X+1)/\bJ e k j/\ay aZ h1 h'
section
variable{h0 h1:az}{P L T P' L' T':SV}{b:GB}{X sX S7:Nat}
def ZN(y:cr h0)(w:ay aZ h0 h1)(Z:Kq h0 P L T b)(Q:Kq h0 P' L' T' b)(hX:fC h1 X (df P L T b) sX)(dj:fC h1 (X+1) (df P' L' T' b) S7)(f2:cm e 2 X)(f3:cm e 3 (X+1))(f5:bJ e 5 0)(C:∀t a,cm t 2 X->cm t 3 (X+1)->ay aZ h1 a->QQ (.exit 0) t a):aO FF (.loop jK) e h1 QQ:=by
 have l1:=aD.len Z.sP;have l2:=aD.len Q.sP;have hlp:=Z.lp;refine aO.loop (SbI h1 X 5 b.bD.length) ?_ (n:=b.bD.length) ⟨0,rfl,ab,f2,f3,f5,.refl w.ok⟩;rintro m t a⟨j,rfl,hj,D,E,H,g⟩;have M:=g.ok;have i:=w.trans g;have d:=g.get w.ok hX;have l:=g.get w.ok dj;simp[df] at d l;rw[l1] at d;rw[l2] at l;unfold jK;by_cases O:j<b.bD.length
 have wj:=cg ((j:Int)+1) ab ab;obtain⟨p,I⟩:=aV b.bD j O;obtain⟨b1,off,c,ha,_,_,⟨A,rfl,sA⟩,o,cZ⟩:=aD.later y Z.sP I;obtain⟨b2,CF,c',G8,_,_,⟨A',rfl,N⟩,o',yS⟩:=aD.later y Q.sP I;have Y:=cZ a i 0 1 ag;have S:=cZ a i 1 1 ag;have q:=yS a i 0 1 ag;have s:=yS a i 1 1 ag;simp[-ax] at Y S q s;rw[ha] at d;rw[G8] at l;have o1:=i.cn o;have o2:=i.cn o';have oY:=M.cn d;have K:=M.cn l;simp[D,E,H,d,l,aF d,aF l,O,Y,S,q,s,o1,o2,oY,K,aQ,-ax];have J:=bC M;generalize tick a=h2 at*;have W:=i.trans J;refine cu.call (V:=Pf h2) (aj (J0 J.ok (sA.mono y W fun _ _ r=>r) (N.mono y W fun _ _ r=>r) (av (Z.lr p (cN I))))) ?_;rintro _ h3⟨g3,rfl⟩;simp[H,wj];exact⟨b.bD.length-(j+1),ab,j+1,rfl,O,au D,au E,ae,(g.trans J).trans g3⟩
 simp[D,H,d,aF d,show j=b.bD.length by omega,-ax];exact C _ _ (au D) (au E) g
def ZM(t:cr h0)(s:ay aZ h0 h1)(Z:Kq h0 P L T b)(O:Kq h0 P' L' T' b)(W:fC h1 X (df P L T b) sX)(dj:fC h1 (X+1) (df P' L' T' b) S7)(f2:cm e 2 X)(f3:cm e 3 (X+1))(f6:bJ e 6 0)(C:∀q d,cm q 2 X->cm q 3 (X+1)->ay aZ h1 d->QQ (.exit 2) q d):aO FF (.loop jJ) e h1 QQ:=by
 have l1:=aD.len Z.sL;have l2:=aD.len O.sL;have Ki:=Z.ll;refine aO.loop (SbI h1 X 6 b.list.length) ?_ (n:=b.list.length) ⟨0,rfl,ab,f2,f3,f6,.refl s.ok⟩;rintro m q d⟨j,rfl,hj,w,D,y,g⟩;have J:=g.ok;have l:=s.trans g;have a:=g.get s.ok W;have i:=g.get s.ok dj;simp[df] at a i;rw[l1] at a;rw[l2] at i;unfold jJ;by_cases M:j<b.list.length
 have S:=cg ((j:Int)+1) ab ab;obtain⟨x,H⟩:=aV b.list j M;obtain⟨b1,off,c,ha,_,_,⟨A,rfl,Y⟩,o,cZ⟩:=aD.later t Z.sL H;obtain⟨b2,CF,c',G8,_,_,⟨A',rfl,K⟩,o',yS⟩:=aD.later t O.sL H;have r:=cZ d l 0 8 ag;have N:=yS d l 0 8 ag;simp[aJ,-ax] at r N;rw[ha] at a;rw[G8] at i;have o1:=l.cn o;have o2:=l.cn o';have oY:=J.cn a;have I:=J.cn i;simp[w,D,y,a,i,aF a,aF i,M,r,N,o1,o2,oY,I,aQ,-ax];have E:=bC J;generalize tick d=h2 at*;have Q:=l.trans E;refine cu.call (V:=Pf h2) (by simpa [fN,aJ] using ZO E.ok (x:=x) (Y.mono t Q fun _ _ r=>r) (K.mono t Q fun _ _ r=>r) (av (Z.la x (cN H)))) ?_;rintro _ h3⟨g3,rfl⟩;simp[y,S];exact⟨b.list.length-(j+1),ab,j+1,rfl,M,au w,au D,ae,(g.trans E).trans g3⟩
 simp[w,y,a,aF a,show j=b.list.length by omega,-ax];exact C _ _ (au w) (au D) g
def R9(i:cr h0)(Z:Kq h0 P L T b)(d:Kq h0 P' L' T' b):bc FF 155 [.agg ⟨df P L T b⟩,.agg ⟨df P' L' T' b⟩] h0 (Pf h0):=by
 refine bc.of A8 ?_;unfold sq;have H:¬h0.aw=h0.aw+1:=ab
 have E:=aD.len Z.sP;have I:=aD.len d.sP;have w:=aD.len Z.sL;have C:=aD.len d.sL;simp[df,H,E,I,w,C];refine aO.cut (fun h1=>ay aZ h0 h1/\(dg h1 h0.aw (df P L T b))/\dg h1 (h0.aw+1) (df P' L' T' b)) ⟨((ay.refl i).new _ _).new _ _,⟨0,by simp[df,H,E,w]⟩,0,by simp[df,I,C]⟩ ?_;rintro h1⟨c,⟨W,s⟩,O,t⟩;refine ZN i c Z d s t ae ae ae ?_;intro S N q o l;simp;refine ZM i (c.trans l) Z d (l.get c.ok s fun h=>h) (l.get c.ok t fun h=>h) (au q) (au o) ae ?_;intro Y K q o M;have a:=l.trans M;have m:=c.trans a;have y:=a.get c.ok s;have D:=a.get c.ok t;simp[df] at y D;simp[q,o,y,D];refine bm.call (V:=Pf K) (aj (JR m.ok (Z.sT.mono i m fun _ _ r=>r) (d.sT.mono i m fun _ _ r=>r) (av Z.lt))) ?_;rintro _ Q⟨J,rfl⟩;simp;exact⟨m.trans J,rfl⟩
end
def GQ.src{P L T:SV}(z:GQ b)(d:aD (pR h) 2 h P.v b.bD)(c:aD (iR h) 8 h L.v b.list)(a:aD nR 1 h T.v b.to):Kq h P L T b:=⟨d,c,a,z.lp,z.ll,z.lr,z.la,z.lt⟩
def WI(b:ByteArray):(b==b)=true:=by obtain⟨d⟩:=b;show(d==d)=true;simp
section
variable{h:az}{B B':SV}
def Vl(a:cr h){name:ByteArray}{p r:Int}(hB:qg h B bs)(t:qg h B' bs)(Z:∀b∈bs,GQ b)(hl:bs.length<1000000):bc FF 99 [.agg ⟨aC name p r B⟩,.agg ⟨aC name p r B'⟩] h (Pf h):=by
 have M:=aD.len hB;have N:=aD.len t;refine bc.of Cm ?_;unfold tT;have n1:¬h.aw=h.aw+1:=ab
 simp[aC,n1,M,N,WI];refine aO.cut (fun h1=>ay aZ h h1/\(dg h1 h.aw (aC name p r B))/\dg h1 (h.aw+1) (aC name p r B')) ?_ ?_;exact⟨((ay.refl a).new _ _).new _ _,⟨0,by simp[aC,n1,M]⟩,0,by simp[aC,N]⟩;rintro h1⟨w,⟨s1,hX⟩,s2,dj⟩;refine aO.loop (SbI h1 h.aw 5 bs.length) ?_ (n:=bs.length) ⟨0,rfl,ab,ae,ae,ae,.refl w.ok⟩;rintro m e E⟨j,rfl,hj,Q,Y,H,g⟩;have O:=g.ok;have l:=w.trans g;have i:=g.get w.ok hX;have q:=g.get w.ok dj;simp[aC] at i q;rw[M] at i;rw[N] at q;unfold qP;by_cases S:j<bs.length
 have wj:=cg ((j:Int)+1) ab ab;obtain⟨b,D⟩:=aV bs j S;have z:=Z b (cN D);obtain⟨b1,off,c,ha,_,_,⟨P,L,T,rfl,sP,sL,sT⟩,o,cZ⟩:=aD.later a hB D;obtain⟨b2,CF,c',G8,_,_,⟨P',L',T',rfl,C,y,I⟩,o',yS⟩:=aD.later a t D;have W:=cZ E l 0 6 ag;have s:=yS E l 0 6 ag;simp[-ax] at W s;rw[ha] at i;rw[G8] at q;have o1:=l.cn o;have o2:=l.cn o';have oY:=O.cn i;have K:=O.cn q;simp[Q,Y,H,i,q,aF i,aF q,S,W,s,o1,o2,oY,K,aQ,-ax];have J:=bC O;generalize tick E=h2 at*;have d:=l.trans J;refine cu.call (V:=Pf h2) (by simpa [df] using R9 J.ok (z.src (sP.mono a d fun _ _ r=>r.mono a d) (sL.mono a d fun _ _ r=>r.mono a d) (sT.mono a d fun _ _ r=>r)) (z.src (C.mono a d fun _ _ r=>r.mono a d) (y.mono a d fun _ _ r=>r.mono a d) (I.mono a d fun _ _ r=>r))) ?_;rintro _ h3⟨g3,rfl⟩;simp[H,wj];exact⟨bs.length-(j+1),ab,j+1,rfl,S,au Q,au Y,ae,(g.trans J).trans g3⟩
 simp[Q,H,i,aF i,show j=bs.length by omega,-ax];exact⟨l,rfl⟩
def Lk(t:cr h)(s:aD (gR h) 3 h G.v gs)(O:aD (gR h) 3 h G'.v gs)(hl:gs.length<1000000)(E6:∀g∈gs,g.init.length<10000000):bc FF 98 [G.v,G'.v] h (Pf h):=by
 have y:=aD.len s;have C:=aD.len O;refine bc.of yN ?_;unfold px;simp[y,C];refine aO.loop (SmI G G' gs.length h) ?_ (n:=gs.length) ⟨0,rfl,ab,au y,au C,ae,.refl t⟩;rintro m e a⟨j,rfl,hj,d,q,H,g⟩;simp at d q;rw[y] at d;rw[C] at q;unfold nq;by_cases D:j<gs.length
 have wj:=cg ((j:Int)+1) ab ab;obtain⟨x,J⟩:=aV gs j D;obtain⟨b,off,c,ha,_,_,⟨I,rfl,sI⟩,o,K⟩:=aD.later t s J;obtain⟨b',CF,c',Y,_,_,⟨I',rfl,M⟩,o',N⟩:=aD.later t O J;have S:=K a g 0 1 ag;have Q:=K a g 1 1 ag;have Z:=K a g 2 1 ag;have i:=N a g 0 1 ag;have w:=N a g 1 1 ag;have l:=N a g 2 1 ag;simp[-ax] at S Q Z i w l;rw[ha] at d;rw[Y] at q;have o1:=g.cn o;have o2:=g.cn o';simp[d,q,H,D,S,Q,Z,i,w,l,o1,o2,WI,aQ,-ax];have W:=bC g.ok;generalize tick a=h2 at*;have E:=g.trans W;refine cu.call (V:=Pf h2) (aj (JR W.ok (sI.mono t E fun _ _ r=>r) (M.mono t E fun _ _ r=>r) (E6 x (cN J)))) ?_;rintro _ h3⟨g3,rfl⟩;simp[H,wj];exact⟨gs.length-(j+1),ab,j+1,rfl,D,by simp[d,ha,y],by simp[q,Y,C],ae,E.trans g3⟩
 simp[d,H,D,show j=gs.length by omega];exact⟨g,rfl⟩
def Sk(d:cr h){G F G' I:SV}(N:uR h G F u)(a:uR h G' I u)(Y:u.globals.length<1000000)(E6:∀g∈u.globals,g.init.length<10000000)(lZ:u.funcs.length<1000000)(hz:∀f∈u.funcs,(∀b∈f.blocks,GQ b)/\f.blocks.length<1000000):bc FF 47 [.agg ⟨[G.v,F.v]⟩,.agg ⟨[G'.v,I.v]⟩] h (Pf h):=by
 have l1:=aD.len N.2;have l2:=aD.len a.2;refine bc.of Bb ?_;unfold ss;have n1:¬h.aw=h.aw+1:=ab
 simp[n1];refine bm.cut (fun h1=>ay aZ h h1/\(dg h1 h.aw [G.v,F.v])/\dg h1 (h.aw+1) [G'.v,I.v]) ⟨((ay.refl d).new _ _).new _ _,⟨0,au n1⟩,0,ae⟩ ?_;rintro h1⟨s,⟨s1,hX⟩,s2,dj⟩;have E:=N.mono d s;have J:=a.mono d s;refine bm.call (V:=Pf h1) (aj (Lk s.ok E.1 J.1 Y E6)) ?_;rintro _ h2⟨i,rfl⟩;have C:=i.get s.ok hX;have y:=i.get s.ok dj;simp at C y;rw[l1] at C;rw[l2] at y;have Q:=s.trans i;simp[C,y];refine aO.loop (SbI h2 h.aw 5 u.funcs.length) ?_ (n:=u.funcs.length) ⟨0,rfl,ab,ae,ae,ae,.refl i.ok⟩;rintro m e H⟨j,rfl,hj,Z,q3,K,g⟩;have W:=g.ok;have q:=Q.trans g;have l:=g.get i.ok C;have w:=g.get i.ok y;unfold pJ;by_cases bk:j<u.funcs.length
 have wj:=cg ((j:Int)+1) ab ab;obtain⟨f,M⟩:=aV u.funcs j bk;obtain⟨z1,z2⟩:=hz f (cN M);obtain⟨b1,off,c,ha,_,_,⟨B,rfl,sB⟩,o,cZ⟩:=aD.later d N.2 M;obtain⟨b2,CF,c',G8,_,_,⟨B',rfl,D⟩,o',yS⟩:=aD.later d a.2 M;have r0:=cZ H q 0 4 ag;have t:=yS H q 0 4 ag;simp[-ax] at r0 t;rw[ha] at l;rw[G8] at w;have o1:=q.cn o;have o2:=q.cn o';have oY:=W.cn l;have S:=W.cn w;simp[Z,q3,K,l,w,aF l,aF w,bk,r0,t,o1,o2,oY,S,aQ,-ax];have O:=bC W;generalize tick H=h3 at*;have g3:=q.trans O;refine cu.call (V:=Pf h3) (by simpa [aC] using Vl O.ok (name:=f.name) (p:=f.params) (r:=f.aB) (qg.mono sB d g3) (qg.mono D d g3) z1 z2) ?_;rintro _ h4⟨g4,rfl⟩;simp[K,wj];exact⟨u.funcs.length-(j+1),ab,j+1,rfl,bk,au Z,au q3,ae,(g.trans O).trans g4⟩
 simp[Z,K,l,aF l,show j=u.funcs.length by omega,-ax];exact⟨q,rfl⟩
end
def Xd(h:az)(M:Nat)(G:SV)(gs:List GG):Prop:=∃a:List XG,eo Cu h G a/\PD a gs/\(∀c,eR G=some c->M<=c)/\∀(i:Nat)(y:XG)(g:GG),a[i]?=some y->gs[i]?=some g->VI M h y g
def Xd.go{S:Nat->Prop}{h h':az}{M:Nat}{G:SV}{gs:List GG}(w:Xd h M G gs)(d:cr h)(g:ay S h h')(o:∀c,S c->c<M\/h.aw<=c):Xd h' M G gs:=by
 obtain⟨C,s,D,q,t⟩:=w;refine⟨C,s.go d g fun c l e=>?_,D,q,fun i y x a b=>?_⟩;have:=q c e;have:=s.lt d e;have:=o c l;omega
 obtain⟨h1,m⟩:=t i y x a b;exact⟨h1.go d g fun c l e=>by have:=m c e;have:=h1.lt d e;have:=o c l;omega,m⟩
def Xd.view{h:az}{M:Nat}{G:SV}{gs:List GG}(w:Xd h M G gs):aD (gR h) 3 h G.v gs:=by obtain⟨s,o,d,_,l⟩:=w;exact o.view d.1.symm fun i y g a b=>by obtain⟨m,q⟩:=d.2 i y g a b;exact⟨y.I,by simp[m,q],(l i y g a b).1.view rfl (fun i x y a c=>by rw[a] at c;cases c;rfl)⟩
def asM(h1:az)(U X:Nat)(gs:List GG)(m:Nat)(e:Env)(h':az):Prop:=
 ∃(j:Nat) (G:SV) (a:List XG),m=gs.length-j/\j<=gs.length/\cm e 1 U/\cm e 2 (U+1)/\cm e 3 X/\bJ e 4 j/\ay (· =X) h1 h'/\(dg h' X [G.v,.slice none 0 0])/\bu Cu h1.aw h' G.v a/\PD a (gs.take j)/\∀(i:Nat)(y:XG)(g:GG),a[i]?=some y->gs[i]?=some g->VI h1.aw h' y g/\∀c,eR y.I=some c->¬bt G.v c
def Li{h0 h1:az}(dt:cr h0)(yP:ay aZ h0 h1)(hG:aD (gR h0) 3 h0 G0.v gs)(hgl:gs.length<=10)(E6:∀g∈gs,g.init.length<1000000)(hU:fC h1 U [G0.v,F0.v] sU)(hUX:U≠X)(h0X:h0.aw<=X)(hX:fC h1 X [.slice none 0 0,.slice none 0 0] sX)(f1:cm e 1 U)(f2:cm e 2 (U+1))(f3:cm e 3 X)(f4:bJ e 4 0)(C:∀Z d (G:SV),cm Z 1 U->cm Z 2 (U+1)->cm Z 3 X->ay (· =X) h1 d->(dg d X [G.v,.slice none 0 0])->Xd d h1.aw G gs->QQ (.exit 0) Z d):aO FF (.loop kj) e h1 QQ:=by
 have l1:=aD.len hG;have gi:=yP.ok;refine aO.loop (asM h1 U X gs) ?_ (n:=gs.length) ⟨0,cK,[],rfl,ab,f1,f2,f3,f4,.refl gi,⟨sX,hX⟩,.inl ⟨rfl,rfl⟩,⟨rfl,nofun⟩,nofun⟩;rintro m Z d⟨j,G,ys,rfl,hj,q1,q2,V,q4,g,⟨S7,dj⟩,l,hs,hd⟩;have H:=g.ok;have lX:=gi.wf _ _ hX;have gg:ay aZ h0 d:=yP.trans' g ai (fun c q e=>ab);have K:=g.get gi hU hUX;simp at K dj;rw[l1] at K;have yl:ys.length=j:=by have:=hs.1;simp at this;omega
 unfold kj;by_cases bk:j<gs.length
 .have wj:=cg ((j:Int)+1) ab ab;obtain⟨x,hx⟩:=aV gs j bk;obtain⟨b,off,c,ha,_,_,⟨I,rfl,sI⟩,o,cZ⟩:=aD.later dt hG hx;have r0:=cZ d gg 0 3 ag;simp[-ax] at r0;rw[ha] at K;have gn:=g.aw;simp[q1,V,q4,K,aF K,bk,r0,aH,bw,-ax];obtain⟨Q,w⟩:∃Q,Q=put (aK d [.string ⟨⟨[]⟩⟩,.int .i64 0,.slice none 0 0] 0) d.aw 0 [.string ⟨⟨[]⟩⟩,.int .i64 0,.slice none 0 0] [.string x.name,.int .i64 x.size,.slice I.a I.l I.c] 0:=⟨_,rfl⟩;have S:ay aZ d Q:=by rw[w];exact(ay.refl H).var _ _
  have n2:Q.aw=d.aw+1:=by rw[w];simp
  have hY:Q.tr.get d.aw=some (.bZ [.string x.name,.int .i64 x.size,I.v] false 0 d.clock):=by rw[w];simp[bg]
  rw[<-w,<-n2];clear w;have jC:=gg.trans S;obtain⟨s,h4,e4,a4,D⟩:=EH (bytes:=8) S.ok (E:=encI) (z:=[.int .i64 0]) rfl ((Rh sI).ck dt jC) (E6 x (cN hx)) ag;have XW:=D.get S.ok hY;refine cR (aj e4) ?_;simp at XW;have kR:=D.get S.ok (S.get H dj (fun h=>h));have lX':=H.wf _ _ dj;have nXY:¬X=d.aw:=ab
  have nYX:¬d.aw=X:=ab
  have t:=aY (off:=2) (vs:=[s.v]) D.ok XW;simp at t;have oJ:=t.get D.ok kR nXY;have l4:=D.aw;have hY5:(put h4 d.aw 2 [.string x.name,.int .i64 x.size,.slice I.a I.l I.c] [.slice s.a s.l s.c] 0).tr.get d.aw=some (.bZ [.string x.name,.int .i64 x.size,.slice s.a s.l s.c] false 0 h4.clock):=by rw[aP];rfl
  simp[XW];generalize put h4 d.aw 2 _ _ 0=h5 at*;simp[V,oJ,hY5];have a5:=(De a4).go D.ok t fun c q e=>av ((tA.eR D.ok a4 e).1)
  have lI:∀c,eR s=some c->Q.aw<=c:=fun c e=>(tA.eR D.ok a4 e).1;have l5:=t.aw;have W:=aN t.ok (Cu.enc ⟨x.name,x.size,s⟩) 0;have J:ay (· =d.aw) d h5:=((S.trans D).ck).trans t;have uX:=(l.grow H J (fun c q e=>av ((dI l).lt H (dq (A:=G) q)))).grow t.ok W ai;have hw6:bj Cu (aK h5 (Cu.enc ⟨x.name,x.size,s⟩) 0) (.slice (some ⟨h5.aw,0,none⟩) 1 1) [⟨x.name,x.size,s⟩]:=dz (bz _ _ _);have n6:(aK h5 (Cu.enc ⟨x.name,x.size,s⟩) 0).aw=h5.aw+1:=rfl;obtain⟨v',h7,ha7,Y,O,N⟩:=fx (bytes:=48) W.ok (z:=[.string ⟨⟨[]⟩⟩,.int .i64 0,.slice none 0 0]) rfl uX hw6 ab ag ab;obtain⟨G7,rfl⟩:=bu.C5 Y;refine cR (aj ha7) ?_;have nGX:¬bt G.v X:=fun e=>av (l.of e)
  have LZ:=O.get W.ok (W.get t.ok oJ fun h=>h) nGX;simp[V,LZ,q4,wj];have g8:=aY (off:=0) (vs:=[G7.v]) O.ok LZ;simp at g8;have M:ay (bt G.v) h5 h7:=W.ck.trans O;have axi:∀c,bt G.v c->c<d.aw:=fun c q=>(dI l).lt H (dq (A:=G) q);refine⟨gs.length-(j+1),ab,j+1,G7,ys++[⟨x.name,x.size,s⟩],rfl,bk,au q1,au q2,au V,ae,((g.trans' J ai (fun c q e=>ab)).trans' M ai (fun c q e=>av (l.of e))).trans g8,⟨h7.clock,by rw[aP];rfl⟩,Y.grow O.ok g8 (fun c q e=>av (N c q)),⟨by simp[yl];omega,fun i y g a b=>?_⟩,fun i y g a b=>?_⟩
  .rcases Gf i j with hi|hi;rw[Iw ab] at a;refine hs.2 i y g a ?_;rw[XJ,bM hi];rwa [XJ,bM ab] at b
   .have Wo:i=j:=by have:=(di.mp a).1;simp at this;omega
    subst Wo;rw[Ke ab,yl] at a;simp at a;rw[XJ,bM ab,hx] at b;cases b;subst a;exact⟨rfl,rfl⟩
  .rcases Gf i j with hi|hi
   .rw[Iw ab] at a;obtain⟨⟨k1,k2⟩,kn⟩:=hd i y g a b;have lt:=fun c e=>k1.lt H (c:=c) e;have k3:=k1.go H J fun c q e=>av (lt c e)
    have k4:=k3.go t.ok M fun c q e=>kn c e q;exact⟨⟨k4.go O.ok g8 fun c q e=>av (k2 c e),k2⟩,fun c e w=>by have:=lt c e;have:=N c w;omega⟩
   .have Wo:i=j:=by have:=(di.mp a).1;simp at this;omega
    subst Wo;rw[Ke ab,yl] at a;simp at a;rw[hx] at b;cases b;subst a;exact⟨⟨(a5.go t.ok M fun c q e=>by have:=axi c q;have:=lI c e;omega).go O.ok g8 fun c q e=>av (lI c e),fun c e=>av (lI c e)⟩,fun c e w=>by have:=a5.lt t.ok e;have:=N c w;omega⟩
 .have:j=gs.length:=ab
  subst this;rw[jT] at hs;simp[q1,q4,K,aF K,-ax];exact C _ _ G (au q1) (au q2) (au V) g ⟨S7,aj dj⟩ ⟨ys,dI l,hs,fun c e=>l.of (iE (dI l) e),fun i y g a b=>(hd i y g a b).1⟩
def asL(a:az)(U X:Nat)(G:SV)(fs:List GF)(m:Nat)(e:Env)(h':az):Prop:=
 ∃(j:Nat) (F:SV) (c:List XF),m=fs.length-j/\j<=fs.length/\cm e 1 U/\cm e 2 (U+1)/\cm e 3 X/\bJ e 6 j/\ay (· =X) a h'/\(dg h' X [G.v,F.v])/\bu uZ a.aw h' F.v c/\c.length=j
def RX{h0 l:az}(dt:cr h0)(Hi:ay aZ h0 l)(hF:aD (fR h0) 4 h0 F0.v fs)(lZ:fs.length<=10)(hz:∀f∈fs,(∀b∈f.blocks,GQ b)/\f.blocks.length<100000)(hU:fC l U [G0.v,F0.v] sU)(hUX:U≠X)(h0X:h0.aw<=X)(hX:fC l X [G.v,.slice none 0 0] sX)(f1:cm e 1 U)(f2:cm e 2 (U+1))(f3:cm e 3 X)(f6:bJ e 6 0)(C:∀K a (F:SV) y,cm K 2 (U+1)->cm K 3 X->ay (· =X) l a->(dg a X [G.v,F.v])->bu uZ l.aw a F.v y->y.length=fs.length->QQ (.exit 2) K a):aO FF (.loop kh) e l QQ:=by
 have l1:=aD.len hF;have Y:=Hi.ok;refine aO.loop (asL l U X G fs) ?_ (n:=fs.length) ⟨0,cK,[],rfl,ab,f1,f2,f3,f6,.refl Y,⟨sX,hX⟩,.inl ⟨rfl,rfl⟩,rfl⟩;rintro m K a⟨j,F,y,rfl,hj,S,q2,J,Q,g,⟨S7,s⟩,d,zl⟩;have w:=g.ok;have lX:=Y.wf _ _ hX;have gg:ay aZ h0 a:=Hi.trans' g ai (fun c hc e=>ab);have i:=g.get Y hU hUX;simp at i s;rw[l1] at i;unfold kh;by_cases bk:j<fs.length
 .have wj:=cg ((j:Int)+1) ab ab;obtain⟨f,hf⟩:=aV fs j bk;obtain⟨z1,z2⟩:=hz f (cN hf);obtain⟨b,off,c,ha,_,_,⟨B,rfl,sB⟩,o,cZ⟩:=aD.later dt hF hf;have r0:=cZ a gg 0 4 ag;simp[-ax] at r0;rw[ha] at i;have gn:=g.aw;have o1:=gg.cn o;have oU:=w.cn i;have oX:=w.cn s;have M:=w.st _ _ _ _ _ s;simp[S,J,Q,i,s,aF i,aF s,bk,r0,o1,oU,oX,aQ,-ax];have t:=bC w;have eD:=t.get w s;have fM:=d.grow w t ai;have nt:(tick a).aw=a.aw:=rfl;generalize tick a=h3 at*;refine cu.call (V:=mQ f.name f.params f.aB f.blocks h3) (by simpa [aC] using vK dt (gg.trans t) (name:=f.name) (p:=f.params) (r:=f.aB) sB z1 z2) ?_;rintro _ I⟨q,E,y4,rfl,_,_,_⟩;have kR:=q.get t.ok eD;have l4:=q.aw;simp[aC,kR,M];have D:=aN q.ok (uZ.enc ⟨f.name,f.params,f.aB,E⟩) 0;have qq:=(fM.grow t.ok q ai).grow q.ok D ai;have zK:bj uZ (aK I (uZ.enc ⟨f.name,f.params,f.aB,E⟩) 0) (.slice (some ⟨I.aw,0,none⟩) 1 1) [⟨f.name,f.params,f.aB,E⟩]:=dz (bz _ _ _);have n5:(aK I (uZ.enc ⟨f.name,f.params,f.aB,E⟩) 0).aw=I.aw+1:=rfl;obtain⟨v',h6,O,uX,H,Z⟩:=fx (bytes:=56) D.ok (z:=[.string ⟨⟨[]⟩⟩,.int .i64 0,.int .i64 0,.slice none 0 0]) rfl qq zK ab ag ab;obtain⟨F6,rfl⟩:=bu.C5 uX;refine mn (by simpa [aC] using O) ?_;have N:¬bt F.v X:=fun e=>av (d.of e)
  have po:=H.get D.ok (D.get q.ok kR fun h=>h) N;simp[J,po,Q,wj];have W:=aY (off:=1) (vs:=[F6.v]) H.ok po;simp at W;exact⟨fs.length-(j+1),ab,j+1,F6,y++[⟨f.name,f.params,f.aB,E⟩],rfl,bk,au S,au q2,au J,ae,(((((g.trans t.ck).trans q.ck).trans D.ck).trans' H ai (fun c hc e=>av (d.of e)))).trans W,⟨h6.clock,by rw[aP];rfl⟩,uX.grow H.ok W (fun c hc e=>av (Z c hc)),au zl⟩
 .have:j=fs.length:=ab
  subst this;simp[S,Q,i,aF i,-ax];exact C _ _ F y (au q2) (au J) g ⟨S7,aj s⟩ d zl
def RuQ(u:GU)(h:az)(v:Value)(h':az):Prop:=
 ay aZ h h'/\∃(G F:SV) (d:List XF),v=.agg ⟨[G.v,F.v]⟩/\eo uZ h' F d/\d.length=u.funcs.length/\(∀c,bt F.v c->h.aw<=c)/\∀(S:Nat->Prop)(a:az),ay S h' a->(∀c,S c->bt F.v c\/h'.aw<=c)->aD (gR a) 3 a G.v u.globals
def Vi(w:cr h)(J:uR h G0 F0 u)(y:u.globals.length<=10)(E6:∀g∈u.globals,g.init.length<1000000)(Q:u.funcs.length<=10)(Y:∀f∈u.funcs,(∀b∈f.blocks,GQ b)/\f.blocks.length<100000):bc FF 15 [.agg ⟨[G0.v,F0.v]⟩] h (RuQ u h):=by
 have K:¬h.aw=h.aw+1:=ab
 have i:¬h.aw=h.aw+1+1:=ab
 have t:¬h.aw+1=h.aw+1+1:=ab
 refine bc.of Ch ?_;unfold tO;simp[K,i,t];refine aO.cut (fun h1=>ay aZ h h1/\h1.aw=h.aw+3/\(dg h1 h.aw [G0.v,F0.v])/\(dg h1 (h.aw+1) [.slice none 0 0,.slice none 0 0])/\dg h1 (h.aw+1+1) [.slice none 0 0,.slice none 0 0]) ⟨(((ay.refl w).new _ _).new _ _).new _ _,ae,⟨0,by simp[K,i]⟩,⟨0,ae⟩,0,ae⟩ ?_;rintro h1⟨o,nx,⟨sU,H⟩,⟨sR,hR⟩,sX,V⟩;refine Li w o J.1 y E6 (U:=h.aw) (X:=h.aw+1+1) H i ab V ae ae ae ae ?_;intro e2 C G Z s q a ⟨N,eC⟩ W2;have I:ay aZ h C:=o.trans' a ai fun c m e=>ab
 have EZ:=a.get o.ok H i;have w_:=a.get o.ok hR t;simp;refine RX w I J.2 Q Y (U:=h.aw) (X:=h.aw+1+1) EZ i ab eC (au Z) (au s) (au q) ae ?_;intro e3 h3 F O s q d ⟨W,E⟩ acc zl;have M:ay aZ h h3:=I.trans' d ai fun c m e=>ab
 have D:=d.get a.ok w_ t;simp at E;simp[s,q,E,D];have l:=aY (off:=0) (vs:=[G.v,F.v]) d.ok D;simp at l;have l2:=a.aw;have l3:=d.aw;have l4:=l.aw;refine⟨M.trans' l ai fun c m e=>ab,G,F,O,ae,(dI acc).go d.ok l (fun c m e=>av (acc.of (iE (dI acc) e))),zl,fun c m=>av (acc.of m),fun S h5 g5 hS=>?_⟩;refine(W2.go a.ok (S:=fun c=>c<h1.aw\/C.aw<=c) (((d.cY fun c _ e=>.inl ab).trans (l.cY fun c _ e=>.inl ab)).trans (g5.cY fun c _ e=>?_)) (fun c h=>h)).view;rcases hS c e with e|e
 exact .inr (acc.of e);exact .inr ab
def WX:∀(bp:List Nat)(L:List Nat),bp.Nodup->(∀k∈bp,k<L.length)->(bp.map fun k=>L.getD k 0).sum<=L.sum
 |[],_,_,_=>ae
 |k::bp,L,nd,lt=>by
  obtain⟨h1,l⟩:=List.nodup_cons.1 nd;have c:=lt k h_;have i:L[k]?=some (L.getD k 0):=by simp[List.getD,c]
  have m:=xB L k 0 _ i;have d:=WX bp (L.set k 0) l fun j a=>by rw[List.length_set];exact lt j (uQ _ a)
  have e:(bp.map fun j=>(L.set k 0).getD j 0)=bp.map fun j=>L.getD j 0:=List.map_congr_left fun j a=>by have:k≠j:=fun e=>h1 (e▸a);simp[List.getD,this]
  rw[e] at d;simp only[xX,List.sum_cons];omega
def Q6{bp:List Nat}(o:Ord bs.length bp):gT (bh bs bp)<=gT bs:=by
 have:=WX bp (bs.map fun b=>b.list.length) o.nd fun k a=>aj (o.lt k a)
 refine sx (Nat.le_of_eq ?_) this;unfold gT bh;rw[List.map_map];congr 1;refine List.map_congr_left fun k a=>?_;have:=o.lt k a;simp[List.getD,dY,this]
def EI(bs:List GB)(b:Int):(aX bs b).length<=bs.length:=Jf ((qv bs b).imp fun h e=>ab) fun _ h=>z8 h
structure St(n:Nat)(bs:List GB):Prop where
 E:EB bs
 l:gT bs<=300
 p:∀b∈bs,b.bD.length<=300
 x:∀b∈bs,∀x∈b.list,InF x/\x.args.length<=100
 r:∀b∈bs,tC n (LO b)
section
variable{n:Nat}{bs:List GB}
def St.ll(S:St n bs)(h:b∈bs):b.list.length<=300:=by obtain⟨i,a⟩:=iI h;have:=xp a;have:=S.l;omega
def St.rg(S:St n bs):kV n bs:=⟨S.r,fun b a=>av (S.p b a),fun b a=>av (S.ll a),fun b a x c=>av ((S.x b a x c).2)⟩
def St.kept(S:St n bs){bp:List Nat}(C:kU bs bp):St n (bh bs bp):=by
 have d:∀b∈bh bs bp,∃X∈bs,∃f N i,b=dY f N i X:=fun b a=>by unfold bh at a;obtain⟨k,l,rfl⟩:=jo.1 a;obtain⟨X,c⟩:=aV bs k (C.o.lt k l);exact⟨X,cN c,_,_,_,by rw[c];rfl⟩
 refine⟨C.eb S.E,sx (Q6 C.o) S.l,fun b a=>?_,fun b a=>?_,(S.rg.kept C.o).r⟩<;>obtain⟨X,c,f,N,i,rfl⟩:=d b a;simpa [dY] using S.p X c;exact S.x X c
def St.step(S:St n bs){b t:Nat}{B T:GB}(c:dm bs b t B T):St n (stepG bs b t B T):=by
 have q:∀Y∈stepG bs b t B T,∃(i:Nat) (X:GB),bs[i]?=some X/\Y=dG bs b t B T i X:=fun Y d=>by obtain⟨i,s⟩:=iI d;obtain⟨X,h1,o⟩:=fH s;exact⟨i,X,h1,o⟩
 refine⟨c.eb S.E,by rw[c.lists];exact S.l,fun Y d=>?_,fun Y d x a=>?_,(c.aB S.rg.al).r⟩<;>obtain⟨i,X,m,rfl⟩:=q Y d;have h0:=S.p X (cN m);by_cases l:i=t;unfold dG;rw[bM l];simp[rh];rw[ky l];split;simpa [Bm] using h0;exact h0
 unfold dG at a;split at a;simp[rh] at a;split at a;rcases jS.1 a with h|h;exact S.x B (cN c.hb) x h;exact S.x T (cN c.ht) x h;refine S.x X (cN m) x ?_;split at a<;>exact a
def Db.st(s:Db bs g)(S:St n bs):St n g:=by
 induction s with
 |refl=>exact S
 |step _ c a=>
  rw[c.kept a.E];exact(a.step c).kept (c.left a.E)
def St.inZ(S:St n bs):∀b∈bs,GQ b:=fun b a=>by obtain⟨i,d⟩:=iI a;refine⟨av (S.p b a),av (S.ll a),fun p c=>?_,fun x l=>av ((S.x b a x l).2),av (S.E.two a)⟩;rw[S.E.rows i b d p c];have:=EI bs i;have:=S.E.n50;omega
def St.inJ(S:St n bs){b t:Nat}{B T:GB}(c:dm bs b t B T):∀x∈iv bs b t T,GQ x:=fun x d=>by
 obtain⟨i,a⟩:=iI d;by_cases e:i=t;subst e;rw[QX c] at a;cases a;have l:=cN c.ht;exact⟨ae,by have:=S.ll l;simp;omega,ae,fun x d=>av ((S.x T l x d).2),ae⟩
 rw[Fk c S.E e] at a;exact(S.step c).inZ x (cN a)
def ada(h:p<=n):tC n (kT p)/\(kT p).Nodup:=by
 refine⟨fun r c=>?_,?_⟩;obtain⟨k,a,rfl⟩:=jo.1 c;have:=N4.1 a;omega
 exact List.pairwise_map.2 (List.nodup_range.imp fun h e=>h ab)
def WC:∀(es:List Int){l:List Int},tC n l->tC n es->tC n (dh l es)
 |[],_,h,_=>h
 |e::es,l,h,c=>WC es (l:=dN l e) (fun r a=>by unfold dN at a;split at a;exact h r a;rcases jS.1 a with a|a;exact h r a;exact c r (by simp at a;simp[a])) fun r a=>c r (uQ _ a)
def D0{l es:List Int}(h:tC n l/\l.Nodup)(c:tC n es):(tC n (dh l es)/\(dh l es).Nodup)/\(dh l es).length<=n:=by have a:=WC es h.1 c;have b:=WD es h.2;exact⟨⟨a,b⟩,Jf b a⟩
def uf{α:Type}{f:α->List Int}{xs:List α}(h:∀x∈xs,tC n (f x)):tC n (xs.flatMap f):=fun r a=>by obtain⟨x,c,a⟩:=List.mem_flatMap.1 a;exact h x c r a
def St.metIn(S:St n bs)(s:p<=n)(y:n<1000):aaJ p bs:=by
 have F:BsF bs:=fun b a x l=>(S.x b a x l).1;have m:∀b∈bs,tC n (Qr b):=fun b a=>abh (S.r b a);have d:∀b∈bs,∀q∈b.bD,tC n (u0 q.row):=fun b a q c=>((jA.1 (S.r b a)).1 q c).snd;have P:=ada s;have o:=D0 P (uf m);have C:=S.E.n50;refine⟨ab,ab,S.p,fun b a=>S.ll a,fun b a x l=>(S.x b a x l).2,fun b a q c=>by have:=(S.inZ b a).lr q c;obtain⟨i,w⟩:=iI a;rw[S.E.rows i b w q c];have:=EI bs i;omega,fun j=>?_,fun i b j a=>?_,?_⟩
 rw[zL fun b a=>F b (XK a)];have:=(D0 P (uf (xs:=bs.take j) fun b a=>m b (XK a))).2;omega
 rw[Oq,DZ,zL F];have t:=D0 o.1 (uf (f:=ev3) (xs:=bs.take i) fun b a=>uf (d b (XK a)));have:=(D0 t.1 (uf (f:=fun q:GP=>u0 q.row) (xs:=b.bD.take j) fun q c=>d b (cN a) q (XK c))).2;omega
 unfold DY;rw[DZ,zL F];have:=(D0 o.1 (uf (f:=ev3) (xs:=bs) fun b a=>uf (d b a))).2;omega
end
def ZS{a:Nat×List GB}(S:St n bs)(T:PE p bs a)(s:Db (bh bs (dP bs)) g')(d:∀x,uV g' x):eB p g'=a:=by obtain⟨q,m,c,w,rfl⟩:=T;have i:=s.st (S.kept S.E.D7);have e:=Xz S.E s d m c;have l:=i.kept i.E.D7;have F:BsF (bh g' (dP g')):=fun b o x t=>(l.x b o x t).1;unfold eB wy;rw[afO F,e]
def RtZ(name:ByteArray)(p n:Nat)(bs:List GB)(h:az)(v:Value)(h':az):Prop:=
 ∃g',Db (bh bs (dP bs)) g'/\(∀x,uV g' x)/\mQ name p (eB p g').1 (eB p g').2 h v h'
def RtI(name:ByteArray)(p:Nat)(r:Int)(h:az)(K:List GB)(m:Nat)(e':Env)(h':az):Prop:=
 ∃(g:List GB) (B:SV) (a:List YB),m=g.length/\Db K g/\cm e' 2 (h.aw+1)/\cm e' 3 (h.aw+2)/\(ay aZ h h'/\h.aw+3<=h'.aw)/\(dg h' (h.aw+1) [.string ⟨⟨[]⟩⟩,.int .i64 0,.int .i64 0,.slice none 0 0])/\(dg h' (h.aw+2) (aC name p r B))/\FZ h' (h.aw+3) B a/\a.map YB.g=g
def Vg(dt:cr h0)(g0:ay aZ h0 h){name:ByteArray}{r:Int}{B:SV}(hB:qg h0 B bs)(S:St n bs)(hp:p<=n)(hn:n<1000):bc FF 17 [.agg ⟨aC name p r B⟩] h (RtZ name p n bs h):=by
 have ok:=g0.ok;have E:=S.E;have Z:=S.inZ;have n1:¬h.aw=h.aw+1:=ab
 have n2:¬h.aw=h.aw+1+1:=ab
 have o:=E.D7.o;have ol:=o.len;have LY:=E.n50;have kl:(bh bs (dP bs)).length=(dP bs).length:=by simp[bh]
 refine bc.of Cg ?_;unfold tN;simp[aC,n1,aQ,bw,ed,-ax];refine cu.cut (fun h1=>ay aZ h h1/\h1.aw=h.aw+3/\h1.tr.get h.aw=some (.bZ (aC name p r B) false 0 0)/\(dg h1 (h.aw+1) [.string ⟨⟨[]⟩⟩,.int .i64 0,.int .i64 0,.slice none 0 0])/\h1.tr.get (h.aw+2)=some (.bZ [.string ⟨⟨[]⟩⟩,.int .i64 0,.int .i64 0,.slice none 0 0] false 0 0)) ?_ ?_;exact⟨((((ay.refl ok).new _ _).new _ _).tick).new _ _,ae,by simp[aC,n1,n2],⟨0,ae⟩,ae⟩;rintro h1⟨C,nx,hF,⟨sR,hR⟩,hX⟩;have l0:=g0.aw;refine cu.call (V:=fun v h'=>ay aZ h1 h'/\∃L:SV,v=L.v/\bu encI h1.aw h' L.v (nI (dP bs))) (by simpa [aC] using Gv C.ok (name:=name) (p:=p) (r:=r) (hB.mono dt (g0.trans C)) E.ends E.n1) ?_;rintro _ h2⟨y,O,rfl,ahY⟩;have Hi:=(g0.trans C).trans y;have jz:=y.get C.ok hF;have w_:=y.get C.ok hR;have eC:=y.get C.ok hX;simp[aC] at jz;simp[jz];refine cu.call (V:=mQ name p r (bh bs (dP bs)) h2) (by simpa [aC] using CM Hi.ok (.refl Hi.ok) (name:=name) (p:=p) (r:=r) (hB.mono dt Hi) E Z ahY.sl ab o.lt) ?_;rintro _ h3⟨I,B3,ys,rfl,W3,xi3,M3⟩;have Ew:=I.get y.ok w_;have eD:=I.get y.ok eC;have eX:h.aw+2=h.aw+1+1:=rfl;rw[eX] at eD;simp[aC,eD];have N:=aY (off:=0) (vs:=[.string name,.int .i64 p,.int .i64 r,B3.v]) I.ok eD;have kR:(put h3 (h.aw+1+1) 0 [.string ⟨⟨[]⟩⟩,.int .i64 0,.int .i64 0,.slice none 0 0] [.string name,.int .i64 p,.int .i64 r,B3.v] 0).tr.get (h.aw+1+1)=some (.bZ [.string name,.int .i64 p,.int .i64 r,B3.v] false 0 h3.clock):=by rw[aP];rfl
 simp only[SV.yJ] at N kR;have KP:=N.get I.ok Ew ab;have l1:=C.aw;have l2:=y.aw;have W4:=W3.go I.ok N (fun c l e H=>av (W3.new l c H));have ef:=(C.trans y).trans I;have pT:ay aZ h _:=ef.trans' N ai (fun c W e=>ab);generalize put h3 (h.aw+1+1) 0 _ _ 0=h4 at*;refine aO.loop (RtI name p r h (bh bs (dP bs))) ?_ (n:=(bh bs (dP bs)).length) ⟨_,B3,ys,rfl,.refl _,ae,ae,⟨pT,by have:=I.aw;have:=N.aw;omega⟩,⟨_,KP⟩,⟨_,by simpa [aC] using kR⟩,W4.cY ab,M3⟩;rintro m e' h'⟨g,B',i,rfl,s,q2,K,⟨gg,gl⟩,⟨sR',hR'⟩,⟨S7,dj⟩,W',M'⟩;have M:=gg.ok;have q:=s.st (S.kept E.D7);subst M';unfold qN;simp[K,aC] at dj⊢;simp[dj];refine bm.call (V:=al0 (i.map YB.g) h') (by simpa [aC] using Rz M (.refl M) (name:=name) (p:=p) (r:=r) W'.view q.E) ?_;rintro _ h5⟨a,W⟩;have oJ:=a.get M dj;have Ak:=a.get M hR';have l0':=gg.aw;have l5:=a.aw;have V5:=W'.view.mono M a;rcases W with⟨rfl,no⟩|⟨b,t,X,T,rfl,c⟩
 simp[q2,K,oJ];refine bm.call (V:=mQ name p (eB p (i.map YB.g)).1 (eB p (i.map YB.g)).2 h5) (by simpa [aC] using RO a.ok (.refl a.ok) (name:=name) (p:=p) (r:=r) V5 q.E q.inZ ((q.kept q.E.D7).metIn hp hn)) ?_;rintro _ h6⟨d,w,y6,rfl,Q,x6,M6⟩;have J:=d.get a.ok Ak;simp[aC,q2,J];obtain⟨sR6,J⟩:dg h6 (h.aw+1) [.string ⟨⟨[]⟩⟩,.int .i64 0,.int .i64 0,.slice none 0 0]:=⟨_,J⟩;have D:=aY (off:=0) (vs:=[.string name,.int .i64 p,.int .i64 (eB p (i.map YB.g)).1,.slice w.a w.l w.c]) d.ok J;refine⟨_,s,no,((gg.trans a).trans d).trans' D ai (fun c W e=>ab),w,y6,by simp[aC],(Q.go d.ok D fun c l e H=>av (Q.new l c H)).cY ab,x6,M6⟩
 .have bl:=(di.mp c.hb).1;have nb:¬(b:Int)<0:=ab
  simp[q2,K,oJ,nb];refine bm.call (V:=mQ name p r (bh (iv (i.map YB.g) b t T) (jv (i.map YB.g).length t)) h5) (by simpa [aC] using OM a.ok (.refl a.ok) (name:=name) (p:=p) (r:=r) V5 q.E q.inZ c (c.ebJ q.E) (q.inJ c) (by have:=q.ll (cN c.hb);have:=q.ll (cN c.ht);omega)) ?_;rintro _ h6⟨d,w,y6,rfl,Q,x6,M6⟩;have Y:=d.get a.ok oJ;have J:=d.get a.ok Ak;simp[aC,K,Y];obtain⟨sX6,Y⟩:dg h6 (h.aw+2) [.string name,.int .i64 p,.int .i64 r,.slice B'.a B'.l B'.c]:=⟨_,Y⟩;have D:=aY (off:=0) (vs:=[.string name,.int .i64 p,.int .i64 r,.slice w.a w.l w.c]) d.ok Y;have hR7:=D.get d.ok J ab;have H:(bh (iv (i.map YB.g) b t T) (jv (i.map YB.g).length t)).length<i.length:=by have tl:=(di.mp c.ht).1;have h1:(jv (i.map YB.g).length t).length<(List.range (i.map YB.g).length).length:=List.length_filter_lt_length_iff_exists.2 ⟨t,N4.2 tl,ae⟩;simpa [bh] using h1
  refine⟨_,H,_,w,y6,rfl,.step s c,au q2,au K,⟨((gg.trans a).trans d).trans' D ai (fun c W e=>ab),by have:=d.aw;have:=D.aw;omega⟩,⟨_,hR7⟩,⟨_,by rw[aP];rfl⟩,(Q.go d.ok D fun c l e H=>av (Q.new l c H)).cY ab,M6⟩
section
variable{f:GF}
def eH.ahB(F:eH f):Ls f.blocks:=fun b d x c=>by obtain⟨i,a⟩:=iI d;exact((F.body.AF i b a).list x c).inV
def eH.atz(F:eH f)(aI:Int):aaD aI f.aB.toNat f.blocks:=by
 have s:=F.head.many;have m:=F.head.blocks;refine⟨F.eb,F.ahB,F.ahE aI,F.O8,fun b a=>?_,fun b a x c v d h1=>?_⟩
 have:=gM a;obtain⟨i,l⟩:=iI a;refine⟨ab,ab,fun x c=>?_,fun q o=>?_⟩;have:=(nj ((F.body.AF i b l).list x c)).2;omega;rw[F.eb.rows i b l q o];have:=EI f.blocks i;omega
 obtain⟨w,t⟩:=v;dsimp only at h1;subst h1;rw[<-Ag,<-F.ahB b a x c,Ag] at d;exact((F.O8.li b a).2 x c).2.2 _ d rfl
def IW:∀bs:List GB,gT bs<=dp bs
 |[]=>fh _
 |b::bs=>by have:=IW bs;simp only[gT,dp,xX,List.sum_cons] at this⊢;omega
def DW{aI:Int}{need:List Bool} :∀bs:List GB,gT (eG aI need bs)<=gT bs
 |[]=>fh _
 |b::bs=>by have h1:=DW (aI:=aI) (need:=need) bs;have a:(oy aI need b).list.length<=b.list.length:=EW _ _;simp only[gT,eG,xX,List.sum_cons] at h1 a⊢;omega
def eH.st(F:eH f)(aI:Int)(need:List Bool):St f.aB.toNat (eG aI need f.blocks):=by
 have o:=F.head.many;have a:∀b∈eG aI need f.blocks,∃x∈f.blocks,b=oy aI need x:=fun b c=>by obtain⟨x,d,rfl⟩:=jo.1 c;exact⟨x,d,rfl⟩
 refine⟨F.eb.FD,?_,fun b c=>?_,fun b c x d=>?_,F.adn.FD.r⟩;have:=IW f.blocks;have:=DW (aI:=aI) (need:=need) f.blocks;omega
 obtain⟨y,l,rfl⟩:=a b c;have:=gM l;have:(oy aI need y).bD.length<=y.bD.length:=EW _ _;omega
 obtain⟨y,l,rfl⟩:=a b c;have d:=(Ai.1 d).1;obtain⟨i,m⟩:=iI l;have h:=(F.body.AF i y m).list x d;exact⟨h.inF,av ((nj h).2)⟩
end
def Nd(P:kM):kM:=fun f a=>(∀r,P f r->r=a)/\(∀b∈a.2,GQ b)/\a.2.length<50/\dp a.2<1000000
def IY{k:Nat} :∀ {bs:List GB},(∀b∈bs,b.bD.length+b.list.length<=k)->dp bs<=bs.length*k
 |[],_=>by simp[dp]
 |b::bs,h=>by have h1:=h b h_;have a:=IY (bs:=bs) fun x c=>h x (uQ _ c);simp only[dp,List.length_cons,uP,Nat.one_mul] at a⊢;omega
def acV(S:St n g):(∀b∈(eB p g).2,GQ b)/\(eB p g).2.length<50/\dp (eB p g).2<1000000:=by
 have d:=S.kept S.E.D7;have c:∀b∈(eB p g).2,∃(φ:List Int) (x:GB),x∈bh g (dP g)/\b=Ee φ x:=fun b a=>by simp only[eB] at a;obtain⟨y,o,rfl⟩:=jo.1 a;exact⟨_,y,o,rfl⟩
 have s:(eB p g).2.length=(bh g (dP g)).length:=by simp[eB]
 have w:=d.E.n50;refine⟨fun b a=>?_,ab,?_⟩
 .obtain⟨φ,x,i,rfl⟩:=c b a;have z:=d.inZ x i;exact⟨by simpa [Ee] using z.lp,by simpa [Ee] using z.ll,fun q l=>by
   obtain⟨m,h1,rfl⟩:=jo.1 l;simpa [CL] using z.lr m h1,fun q l=>by
   obtain⟨m,h1,rfl⟩:=jo.1 l;simpa [vb] using z.la m h1,z.lt⟩
 .have:=IY (k:=600) (bs:=(eB p g).2) fun b a=>by obtain⟨φ,x,i,rfl⟩:=c b a;have h1:=d.p x i;have t:=d.ll i;simp[Ee];omega
  have:(eB p g).2.length*600<=50*600:=CX _ ab;omega
def eH.ref{f:GF}(F:eH f){need:List Bool}(L:tD aI f.blocks f.aB.toNat need)(s:Db (bh (eG aI need f.blocks) (dP (eG aI need f.blocks))) g')(no:∀x,uV g' x):Nd (Bp aI) f (eB f.params.toNat g'):=by have S:=F.st aI need;refine⟨fun r ⟨a,L',T⟩=>?_,acV (s.st (S.kept S.E.D7))⟩;cases L.eq L';exact(ZS S T s no).symm
def LwL:List Nat:=[8]++(List.range 19).map (· +32)
def LwI(d:az)(c:SV)(P:kM)(fs:List GF)(e:Env)(m:Nat)(e':Env)(h':az):Prop:=
 ∃(k:Nat) (a:List XF),m=fs.length-k/\k<=fs.length/\aM LwL e e'/\bJ e' 8 k/\ay (bt c.v) d h'/\eo uZ h' c a/\a.length=fs.length/\∀(i:Nat)(z:XF)(f:GF),i<k->a[i]?=some z->fs[i]?=some f->Br d.aw (Nd P) h' z f
def Ql{h0 w:az}(dt:cr h0)(g0:ay aZ h0 w){G F Gw H:SV}(hF:aD (fR h0) 4 h0 F.v fs)(fO:∀f∈fs,eH f)(lZ:fs.length<=10){zs0:List XF}(hW:eo uZ w H zs0)(QF:zs0.length=fs.length)(DM:∀c,bt H.v c->h0.aw<=c)(hU:fC w U [G.v,F.v] sU)(hX:fC w X [Gw.v,H.v] sX)(nU:¬bt H.v U)(nX:¬bt H.v X)(f1:cm e 1 U)(f6:cm e 6 X)(f7:bJ e 7 aI)(f8:bJ e 8 0)(C:∀e' t M,aM LwL e e'->ay (bt H.v) w t->eo uZ t H M->M.length=fs.length->(∀(i:Nat)(z:XF)(f:GF),M[i]?=some z->fs[i]?=some f->Br w.aw (Nd (Bp aI)) t z f)->QQ (.exit 0) e' t):aO FF (.loop iw) e w QQ:=by
 have YR:=g0.ok;have l1:=aD.len hF;refine aO.loop (LwI w H (Bp aI) fs e) ?_ (n:=fs.length) ⟨0,zs0,rfl,ab,aM.refl _ _,f8,.refl YR,hW,QF,fun i z f h=>ab⟩;rintro m e' t⟨k,M,rfl,hk,K,q8,g,N,pA,D⟩;have J:=g.ok;have ln:=g.aw;have gg:ay aZ h0 t:=g0.trans' g ai fun c hc e=>av (DM c e)
 have q1:=K.at f1;have q6:=K.at f6;have q7:=K.at f7;have y:=g.get YR hU nU;have E:=g.get YR hX nX;have zF:=N.len;simp at y E;rw[l1] at y;rw[zF,pA] at E;unfold iw;by_cases oK:k<fs.length
 .have wk:=cg ((k:Int)+1) ab ab;obtain⟨f,hf⟩:=aV fs k oK;obtain⟨z,hz⟩:=aV M k;have Q:=fO f (cN hf);have hr:=Q.head.aB;have hp:=Q.head.params;obtain⟨d,Ws⟩:∃n:Nat,f.params=n:=⟨f.params.toNat,ab⟩;obtain⟨W,hrn⟩:∃n:Nat,f.aB=n:=⟨f.aB.toNat,ab⟩;have er:f.aB.toNat=W:=ab
  have ep:f.params.toNat=d:=ab
  obtain⟨bF,axf,cF,CZ,_,_,⟨B,rfl,sB⟩,oF,cZ⟩:=aD.later dt hF hf;have r0:=cZ t gg 0 4 ag;simp[-ax] at r0;rw[Ws,hrn] at r0;rw[CZ] at y;obtain⟨b,cs,o,s,ha,hb,hjA,dQ,_,fu⟩:=N.el hz;rw[ha] at E;have oU:=J.cn y;have oX:=J.cn E;have oF':=gg.cn oF;have S7:=J.st _ _ _ _ _ E;simp[q1,q6,q7,q8,y,E,aF y,aF E,oK,r0,oU,oX,oF',aQ,-ax];have O:=bC J;have eC:=O.get J E;have pz:=O.get J hb;have nt:(tick t).aw=t.aw:=rfl;generalize tick t=h2 at*;have D1:=Q.atz aI;have Z1:=Q.inZ;rw[er] at D1;refine cu.call (V:=fun v h3=>∃l,tD aI f.blocks W l/\mQ f.name d W (eG aI l f.blocks) h2 v h3) (by simpa [aC] using U4 dt (gg.trans O) (name:=f.name) (p:=d) sB D1 Z1 ab) ?_;rintro _ h3⟨l,L,I,B3,ys,rfl,W3,xi3,M3⟩;have V3:=W3.view;rw[M3] at V3;have S3:=Q.st aI l;rw[er] at S3;have eD:=I.get O.ok eC;have Pl:=I.get O.ok pz;simp[eD,S7];refine cu.call (V:=RtZ f.name d W (eG aI l f.blocks) h3) (by simpa [aC] using Vg I.ok (.refl I.ok) (name:=f.name) (r:=W) V3 S3 ab ab) ?_;rintro _ h4⟨g',s',no,S,q,y4,rfl,W4,xi4,M4⟩;rw[<-er] at L;have R4:=Q.ref L s' no;rw[ep] at R4;have kR:=S.get I.ok eD;have hb4:=S.get I.ok Pl;have Z:=dQ 0 4 ag;simp at Z;simp[aC,kR,S7,oK,hb4,Z,q8,wk];have Y:=(O.trans I).trans S;have lb:b<w.aw:=hW.cn YR (eY ha);have g5:=aY (off:=k*4) (vs:=[Value.string f.name,.int .i64 d,.int .i64 (eB d g').1,.slice q.a q.l q.c]) S.ok hb4;have A5:=fu ⟨f.name,d,(eB d g').1,q⟩ 0 [Value.string f.name,.int .i64 d,.int .i64 (eB d g').1,.slice q.a q.l q.c] ae rfl (put h4 b (k*4) cs [Value.string f.name,.int .i64 d,.int .i64 (eB d g').1,.slice q.a q.l q.c] o) ⟨h4.clock,ae⟩;generalize put h4 b (k*4) cs _ o=h5 at*;refine⟨fs.length-(k+1),ab,k+1,M.set k ⟨f.name,d,(eB d g').1,q⟩,rfl,oK,?_,ae,(g.trans Y.ck).trans (g5.cY fun c _ e=>e▸eY ha),A5,au pA,fun i z2 f2 hi h1 h2=>?_⟩
  .exact aq
  .rw[fL] at h1;by_cases e1:k=i;subst e1;rw[bM rfl,bM ab] at h1;cases h1;rw[hf] at h2;cases h2;have D5:Br w.aw (Nd (Bp aI)) h4 ⟨f.name,d,(eB d g').1,q⟩ f:=⟨h3.aw,y4,(eB d g').1,av I.aw,W4,⟨rfl,Ws.symm,rfl⟩,by rw[M4];exact R4⟩;exact D5.grow S.ok g5 fun x e=>.inl ab
   rw[bU e1] at h1;exact((D i z2 f2 ab h1 h2).grow J Y (fun _ h=>h.elim)).grow S.ok g5 fun x e=>.inl ab
 .have:k=fs.length:=ab
  subst this;simp[q1,q8,y,aF y,-ax];refine C _ _ M ?_ g N pA fun i z f a b=>D i z f (av ((di.mp b).1)) a b
  exact aq
def Sd(d:cr h)(c a:Int):bc FF 46 [.int .i64 c,.int .i64 a] h (fun v i=>v=.agg ⟨[.int .i64 c,.int .i64 a]⟩/\ay aZ h i):=by refine bc.of Ba ?_;unfold sr;simp[bg];exact(ay.refl d).var _ _
def agA(P:kM)(gs:List GG)(fs:List GF)(h:az)(G F:SV)(c a:Int):Prop:=
 (∃k:Nat,c=10/\a=k/\G=cK/\F=cK/\ahM P fs k)\/(c=0/\a=0/\∃d,uR h G F ⟨gs,d⟩/\FM (PL P) fs d)
section
variable{P:kM}{fs ws:List GF}{j k:Nat}
def Fx(R:FM (Nd P) fs ws)(d:j<fs.length):∃(f w:GF) (r:Nat×List GB),fs[j]?=some f/\ws[j]?=some w/\Nd P f r/\w=⟨f.name,f.params,r.1,r.2⟩:=by obtain⟨f,c⟩:=aV fs j d;obtain⟨w,a⟩:=aV ws j (by rw[R.1];exact d);obtain⟨r,h1,i⟩:=R.2 j f w c a;exact⟨f,w,r,c,a,h1,i⟩
def aaH(ws:List GF)(j:Nat)(b:Bool):Prop:=∀w:GF,ws[j]?=some w->iJ w.aB w.blocks=b
def aa2(R:FM (Nd P) fs ws)(B:ahM P fs k):k<fs.length/\aaH ws k true/\∀i,i<k->aaH ws i false:=by
 obtain⟨f,a,m,p,l,n⟩:=B;have s:=(di.mp m).1;refine⟨s,fun w c=>?_,fun i D w c=>?_⟩
 obtain⟨r,h1,rfl⟩:=R.2 k f w m c;cases h1.1 a p;exact l;obtain⟨q,E,r,h1,o,C,rfl⟩:=Fx R (show i<fs.length by omega);rw[c] at o;cases o;obtain⟨d,y,t⟩:=n i q D h1;cases C.1 d y;exact t
def Wz{d:List GF}(R:FM (Nd P) fs ws)(M:FM (PL P) fs d):d=ws/\∀i,i<fs.length->aaH ws i false:=by
 have key:∀i,i<fs.length->∃w,ws[i]?=some w/\d[i]?=some w/\iJ w.aB w.blocks=false:=fun i a=>by obtain⟨f,w,r,h1,o,t,rfl⟩:=Fx R a;obtain⟨s,c⟩:=aV d i (by rw[M.1];exact a);obtain⟨m,⟨p,l⟩,rfl⟩:=M.2 i f s h1 c;cases t.1 m p;exact⟨_,o,c,l⟩
 refine⟨Cy fun i=>?_,fun i a w q=>?_⟩;rcases Gf i fs.length with a|a;obtain⟨w,h1,o,_⟩:=key i a;rw[h1,o];rw[wY (by rw[M.1];exact a),wY (by rw[R.1];exact a)];obtain⟨y,h1,_,l⟩:=key i a;rw[q] at h1;cases h1;exact l
end
def GvI(h1:az)(X:Nat)(ws:List GF)(m:Nat)(e:Env)(h':az):Prop:=
 ∃j:Nat,m=ws.length-j/\j<=ws.length/\cm e 5 X/\cm e 6 (X+1)/\cm e 7 (X+2)/\bJ e 9 j/\ay aZ h1 h'/\∀i,i<j->aaH ws i false
def TN(I:cr h){P:kM}{G0 F0 G F Gw Fw:SV}{fs ws:List GF}{c a:Int}(T:agA P gs fs h G F c a)(R:FM (Nd P) fs ws)(l:uR h Gw Fw ⟨gs,ws⟩)(hgl:gs.length<=10)(E6:∀g∈gs,g.init.length<1000000)(lZ:fs.length<=10):bc FF 19 [.agg ⟨[G0.v,F0.v]⟩,.agg ⟨[G.v,F.v]⟩,.agg ⟨[.int .i64 c,.int .i64 a]⟩,.agg ⟨[Gw.v,Fw.v]⟩] h (Pf h):=by
 have l1:=aD.len l.2;have wl:=R.1;dsimp only at l1;refine bc.of AM ?_;unfold rS;have n1:¬h.aw=h.aw+1:=ab
 simp[n1];refine aO.cut (fun h1=>ay aZ h h1/\(dg h1 (h.aw+1) [G.v,F.v])/\(dg h1 (h.aw+1+1) [.int .i64 c,.int .i64 a])/\dg h1 (h.aw+1+2) [Gw.v,Fw.v]) ⟨((((ay.refl I).new _ _).new _ _).new _ _).new _ _,⟨0,ae⟩,⟨0,ae⟩,0,ae⟩ ?_;rintro h1⟨J,⟨s1,hV⟩,⟨s2,hA⟩,s3,hX⟩;refine aO.loop (GvI h1 (h.aw+1) ws) ?_ (n:=ws.length) ⟨0,rfl,ab,ae,ae,ae,ae,.refl J.ok,fun i N=>ab⟩;rintro m e q⟨j,rfl,hj,q5,W,q7,Q,g,Lg⟩;have Z:=g.ok;have D:=J.trans g;have s:=g.get J.ok hV;have y:=g.get J.ok hA;have dj:=g.get J.ok hX;simp at s y dj;rw[l1] at dj;unfold pC;by_cases bk:j<ws.length
 .have wj:=cg ((j:Int)+1) ab ab;obtain⟨f,w,r,_,o,K,rfl⟩:=Fx R (show j<fs.length by omega);obtain⟨bF,axf,cF,CZ,_,_,⟨B,rfl,sB⟩,oF,cZ⟩:=aD.later I l.2 o;have r0:=cZ q D 0 4 ag;simp[-ax] at r0;have eC:=dj;rw[CZ] at eC;simp[q7,Q,eC,aF eC,bk,r0,-ax];have O:∀t,aaH ws j t->iJ r.1 r.2=t:=fun t h=>h _ o;refine bm.call (V:=fun v S=>ay aZ q S/\v=.bool (iJ r.1 r.2)) (by simpa [aC] using RM Z (name:=f.name) (p:=f.params) (r:=r.1) (qg.mono sB I D) (by have:=K.2.2.1;dsimp only;omega) (by have:=K.2.2.2;dsimp only;omega)) ?_;rintro _ S⟨d,rfl⟩;have jC:=D.trans d;cases hb:iJ r.1 r.2 with
  |false=>
   simp[Q,wj];refine⟨ws.length-(j+1),ab,j+1,rfl,bk,au q5,au W,au q7,ae,g.trans d,fun i N w l=>?_⟩;rcases Gf i j with Wo|Wo;exact Lg i Wo w l
   .obtain rfl:i=j:=ab
    rw[o] at l;cases l;exact hb
  |true=>
   rcases T with⟨k,rfl,rfl,rfl,rfl,B⟩|⟨_,_,DI,_,M⟩
   .obtain⟨hk,lk,ln⟩:=aa2 R B;have h3':=o;clear o;have ek:k=j:=by
     rcases Nat.lt_trichotomy k j with e|e|e;obtain⟨_,w,_,_,l,_⟩:=Fx R hk;have:=Lg k e w l;rw[lk w l] at this;cases this
     exact e;have:=O false (ln j e);rw[hb] at this;cases this
    subst ek;have H:=d.get Z y;have C:=d.get Z s;have oA:=d.ok.cn H;have oV:=d.ok.cn C;have sA:=d.ok.st _ _ _ _ _ H;have sV:=d.ok.st _ _ _ _ _ C;simp[W,Q,H,aF H,oA,aQ,-ax];have E:=bC d.ok;generalize tick S=o at*;have Hk:=E.get d.ok H;have hV3:=E.get d.ok C;refine cu.call (V:=fun v q=>v=.agg ⟨[.int .i64 10,.int .i64 (k:Int)]⟩/\ay aZ o q) (aj (Sd E.ok 10 k)) ?_;rintro _ h4⟨rfl,Y⟩;have TO:=Y.get E.ok Hk;have hV4:=Y.get E.ok hV3;simp[q5,W,TO,hV4,sA,sV];refine cu.call (V:=fun v q=>v=.bool true/\ay aZ h4 q) (by simpa [cK] using MA Y.ok cK cK) ?_;rintro _ h5⟨rfl,g5⟩;simp;exact⟨((jC.trans E).trans Y).trans g5,rfl⟩
   have:=O false ((Wz R M).2 j ab);rw[hb] at this;cases this
 .have:j=ws.length:=ab
  subst this;rcases T with⟨k,rfl,rfl,rfl,rfl,B⟩|⟨rfl,rfl,DI,hv,M⟩;obtain⟨hk,lk,_⟩:=aa2 R B;obtain⟨_,w,_,_,l,_⟩:=Fx R hk;have:=Lg k ab w l;rw[lk w l] at this;cases this
  obtain⟨rfl,_⟩:=Wz R M;simp[q5,W,q7,Q,y,s,dj];refine bm.call (V:=Pf q) (by simpa [l1] using Sk Z (hv.mono I D) (l.mono I D) (by dsimp only;omega) (fun g hg=>av (E6 g hg)) (by dsimp only;omega) (fun f hf=>by obtain⟨i,N⟩:=iI hf;obtain⟨f2,w,r,_,o,K,rfl⟩:=Fx R (show i<fs.length by have:=(di.mp N).1;dsimp only at this;omega);dsimp only at N;rw[N] at o;cases o;exact⟨K.2.1,by have:=K.2.2.1;dsimp only;omega⟩)) ?_;rintro _ S⟨d,rfl⟩;simp;exact⟨D.trans d,rfl⟩
def KI(w:cr h)(cl:HB h)(hn:0<h.aw)(hw:GR h)(O:uR h G F u)(s1:Small u)(sm:EG u)(py:mI h.aw G.v/\mI h.aw F.v):bc FF 3 [.agg ⟨[G.v,F.v]⟩] h (fun v _=>v=.bool true):=by
 have wJ:=aD.len O.2;refine bc.of xS ?_;unfold nM;simp;refine bm.cut (fun h1=>ay aZ h h1/\h1.tr.get h.aw=some (.bZ [G.v,F.v] false 0 0)) ⟨(ay.refl w).new _ _,ae⟩ ?_;rintro h1⟨g1,hU1⟩;refine bm.call (V:=fun v E=>ay aZ h1 E/\∃hv:Bool,v=.bool hv/\(hv=false->u.funcs.length<=10/\∀f∈u.funcs,VK f)) (aj (Uc g1.ok (O.mono w g1) s1)) ?_;rintro _ h2⟨g2,hv,rfl,hL⟩;have jC:=g1.trans g2;have EZ:=g2.get g1.ok hU1;have Ob:=EZ;simp at Ob;cases hv with
 |true=>simp
 |false=>
 obtain⟨D,hL⟩:=hL rfl;simp[Ob];obtain⟨c0,a0,KS⟩:∃c0 a0:Int,bc FF 13 [.agg ⟨[G.v,F.v]⟩] h2 (fun v _=>v=.agg ⟨[.int .i64 c0,.int .i64 a0]⟩):=by obtain⟨n,v,E,hr,_,c,a,rfl,_⟩:=GA g2.ok (hw.grow w jC) (O.mono w jC) sm;exact⟨c,a,n,_,E,hr,rfl⟩
 have o:∀Y,ay aZ h2 Y->bc FF 13 [.agg ⟨[G.v,F.v]⟩] Y (fun v E=>v=.agg ⟨[.int .i64 c0,.int .i64 a0]⟩/\xJ (Bs u) Y v E):=fun Y g=>OW cl w hn jC g hw O sm py KS;refine bm.call (V:=DoZ (Bp (ig u.globals)) u c0 a0 h2) (aj (Xu g2.ok (O.mono w jC) o)) ?_;rintro _ m⟨g3,G',F',c,a,rfl,y⟩;have Hm:=g3.get g2.ok EZ;have lU:=g3.ok.wf _ _ Hm;have ef:=jC.trans g3;have n1:¬m.aw=m.aw+1:=ab
 have n2:¬h.aw=m.aw:=ab
 have n3:¬h.aw=m.aw+1:=ab
 have anL:=Hm;simp at anL;simp[n1,n2,n3,anL];refine bm.cut (fun N=>ay aZ m N/\N.tr.get h.aw=some (.bZ [G.v,F.v] false 0 0)/\(dg N m.aw [G'.v,F'.v])/\(dg N (m.aw+1) [.int .i64 c,.int .i64 a])/\N.aw=m.aw+2) ?_ ?_;refine⟨((((ay.refl g3.ok).new _ _).new _ _).put ⟨0,au n1⟩ (.inl ab)).put ⟨0,ae⟩ (.inl ab),by simp[n2,n3,Hm],⟨m.clock,by simp[n1,bg]⟩,⟨m.clock+1,by simp[bg]⟩,ae⟩;rintro N⟨Z,XU,⟨sV,hV4⟩,⟨sA,TO⟩,nx4⟩;have pT:=ef.trans Z;refine bm.call (V:=fun v E=>v=.agg ⟨[.int .i64 c0,.int .i64 a0]⟩/\xJ (Bs u) N v E) (aj (o N (g3.trans Z))) ?_;rintro _ h5⟨rfl,q,_⟩;have u3:=pT.trans q;have W:=q.get Z.ok XU;have C:=q.get Z.ok hV4;have CY:=q.get Z.ok TO;have l5:=q.aw;have m1:¬m.aw=h5.aw:=ab
 have m2:¬m.aw+1=h5.aw:=ab
 have m3:¬h.aw=h5.aw:=ab
 simp at W C CY;rcases y with⟨Gi,rfl,rfl,rfl,rfl⟩|⟨rfl,rfl,s,A⟩
 .have SP:(c !=0)=true:=by simp[Gi]
  simp[cK] at C;simp[SP,CY,C,m1,m2];refine bm.cut (fun J=>ay aZ h5 J) ((ay.refl q.ok).var _ _) ?_;intro J K;refine bm.call (V:=fun v E=>v=.bool true/\ay aZ J E) (by simpa [cK] using MA K.ok cK cK) ?_;rintro _ Q⟨rfl,t⟩;simp
 .simp[W,m3];refine bm.cut (fun J=>ay aZ h5 J) ((ay.refl q.ok).var _ _) ?_;intro J K;have Wf:=u3.trans K;have hgs:∀g∈u.globals,g.init.length<1000000:=fun g hg=>av (s.unit.gs g hg)
  refine bm.call (V:=RuQ u J) (aj (Vi K.ok (O.mono w Wf) s.unit.gn hgs s.unit.fn (fun f hf=>⟨(s.form f hf).inZ,av ((s.form f hf).head.blocks)⟩))) ?_;rintro _ Q⟨t,Gw,Fw,zs,rfl,hW7,hz7,DM,hG7⟩;have gg7:=Wf.trans t;have l6:=K.aw;have l7:=t.aw;have hU7:=t.get K.ok (K.get q.ok W fun h=>h);have m4:¬h.aw=Q.aw:=ab
  simp[hU7,m4];refine bm.cut (fun h8=>ay aZ Q h8/\dg h8 Q.aw [Gw.v,Fw.v]) ⟨(ay.refl t.ok).var _ _,Q.clock,by simp[bg]⟩ ?_;rintro h8⟨g8,sX,TY⟩;have XL:=gg7.trans g8;have CG:aeG u.globals:=⟨s.unit.gn,fun g hg=>⟨(s.unit.gs g hg).1,(s.unit.gs g hg).2.1⟩⟩;refine bm.call (V:=Ng u.globals h8) (aj (RY (F:=F) XL.ok (agJ (O.1.mono w XL fun _ _ r=>r)) CG)) ?_;rintro _ h9⟨g9,rfl⟩;have gg9:=XL.trans g9;have d:=g8.trans g9;have hU9:=d.get t.ok hU7;have hX9:=g9.get g8.ok TY;have apA:∀c,bt Fw.v c->c<Q.aw:=fun c y=>hW7.cn t.ok y;simp;refine Ql (aI:=ig u.globals) w gg9 O.2 s.form D (hW7.ck t.ok d) hz7 (fun c y=>by have:=DM c y;have:=Wf.aw;omega) (U:=h.aw) (X:=Q.aw) (G:=G) (aj hU9) hX9 (fun e=>av (DM _ e)) (fun e=>av (apA _ e)) ae ae ae ae ?_;intro I D zs10 H l auJ avq D10;have k1:cm I 1 h.aw:=H.at ae;have k3:cm I 3 m.aw:=H.at ae;have k4:cm I 4 (m.aw+1):=H.at ae;have k6:cm I 6 Q.aw:=H.at ae;have low:∀c,c<J.aw->¬bt Fw.v c:=fun c y e=>av (DM c e)
  have S:=((K.trans t).trans d);have anK:=l.get d.ok hU9 (low _ ab);have auI:=l.get d.ok (S.get q.ok C fun h=>h) (low _ ab);have atW:=l.get d.ok (S.get q.ok CY fun h=>h) (low _ ab);have anQ:=l.get d.ok hX9 (fun e=>av (apA _ e));simp at anK anQ;simp[k1,k3,k4,k6,anK,auI,atW,anQ];have G3:ay aZ m D:=((Z.trans q).trans S).trans' l ai fun c y e=>low c ab e;obtain⟨ws,hws,R⟩:=Mr l.ok auJ (M:=J.aw) (fun b Y=>DM b Y) avq (fun i z f a b=>by obtain⟨n0,ys,many,hM,r⟩:=D10 i z f a b;exact⟨n0,ys,many,av d.aw,r⟩)
  have T:agA (Bp (ig u.globals)) u.globals u.funcs D G' F' c a:=by rcases A with A|⟨e1,e2,DI,hs,M⟩;exact .inl A;exact .inr ⟨e1,e2,DI,hs aZ D G3 (fun _ h=>h.elim),M⟩
  have V10:uR D Gw Fw ⟨u.globals,ws⟩:=⟨hG7 (bt Fw.v) D (d.ck.trans l) (fun c y=>.inl y),hws aZ D (.refl l.ok) (fun _ h=>h.elim)⟩;refine bm.call (V:=Pf D) (aj (TN (G0:=G) (F0:=F) l.ok T R V10 s.unit.gn hgs s.unit.fn)) ?_;rintro _ h11⟨g11,rfl⟩;simp
end Go.Proofs.YtdhnndleffachaaGreatDoor
