/- Parts of the proof. -/
import Derived.Test.YtdhnndleffachaaGreatDoorP02
import Derived.KernelRfl
import Derived.Test.YtdhnndleffachaaGreatDoorP00
set_option linter.all false
set_option maxHeartbeats 1000000
namespace Go.Proofs.YtdhnndleffachaaGreatDoor
open Go.AI
variable{A T:SV}{C K S X b s s1 s2 s3:Nat}{aB n:Int}{e:Env}{f:Value}{funcs:List GF}{h:az}{ns:List Int}{x:GI}
def ways:List Value:=[.int .i64 0,.int .i64 0,.int .i64 1,.int .i64 2]
def GR(h:az):Prop:=∃ro o s,h.tr.get 0=some (.bZ ways ro o s)
def GR.grow{h h':az}(w:GR h)(j:cr h)(g:ay aZ h h'):GR h':=by obtain⟨ro,o,s,a⟩:=w;exact⟨ro,o,s,g.get j a⟩
def IM(Z:cr h)(Q:aD nR 1 h T.v ns)(hl:ns.length<140737488355329)(p:Int->Bool)(H:∀h1 n,ay aZ h h1->dU FF f [.int .i64 n] h1 (fun v E=>v=.bool (p n)/\ay aZ h1 E)):bc FF 246 [T.v,f] h (fun v E=>ay aZ h E/\∃i:Int,v=.int .i64 i/\(0<=i↔ ∃n∈ns,p n=true)):=by
 have J:=aD.len Q;refine bc.of tY ?_;unfold jX;simp;refine aO.loop (fun m e h2=>∃j:Nat,m=ns.length-j/\j<=ns.length/\bH e 0=T.v/\bH e 1=f/\bJ e 7 ns.length/\bJ e 8 j/\ay aZ h h2/\∀n∈ns.take j,p n=false) ?_ (n:=ns.length)
  ⟨0,rfl,ab,ae,ae,au J,ae,.refl Z,ae⟩
 rintro m e h2⟨j,rfl,hj,w,I,D,q,a,M⟩;unfold jw;by_cases O:j<ns.length
 .have N:ns[j]?=some ns[j]:=g_ O;have hm:=Be O;generalize ns[j]=n at N hm;obtain⟨b,off,c,Bh,_,_,rfl,_,cZ⟩:=aD.later Z Q N;have U:=cZ h2 a 0 1 ag;simp[-ax] at U;have wj:=cg (j+1) ab ab;simp at w;simp[w,I,D,q,Bh,J,O,U,-ax];refine bm.e_ (by simpa [I] using H h2 n a) ?_;rintro _ h3⟨rfl,g3⟩;cases Ws:p n with
  |true=>
   simp;exact⟨a.trans g3,n,hm,Ws⟩
  |false=>
   simp[w,I,D,q,wj];refine⟨ns.length-(j+1),ab,j+1,rfl,ab,⟨Bh,J⟩,ae,a.trans g3,?_⟩;intro n' Y;rw[lg,N] at Y;rcases jS.1 Y with h|h;exact M n' h;simp at h;rw[h];exact Ws
 .have:j=ns.length:=ab
  subst this;rw[jT] at M;simp[D,q];exact⟨a,fun n hn=>M n hn⟩
def DD(w:cr h)(E:aD nR 1 h T.v ns)(D:ns.length<140737488355329)(p:Int->Bool)(H:∀h1 n,ay aZ h h1->dU FF f [.int .i64 n] h1 (fun v a=>v=.bool (p n)/\ay aZ h1 a)):bc FF 200 [T.v,f] h (fun v a=>v=.bool (ns.any p)/\ay aZ h a):=by
 refine bc.of qE ?_;unfold iU;simp;refine bm.call (V:=fun v a=>ay aZ h a/\∃i:Int,v=.int .i64 i/\(0<=i↔ ∃n∈ns,p n=true)) (aj (IM w E D p H)) ?_;rintro _ h2⟨q,i,rfl,I⟩;have e:ns.any p=decide (0<=i):=by rw[Bool.eq_iff_iff];simp[I]
 by_cases h0:0<=i;simp[h0,e];exact q
 .have j:i<0:=ab
  simp[h0,j,e];exact q
section
variable{gs fs blocks ah:SV}{name:ByteArray}{params aB:Int}
def agn(n:Nat)(t:Int):Prop:=1<=t/\t<=(n:Int)-1
def Xy(w:cr h)(D:blocks.l<1000000)(q:fC h C (bx gs fs name params aB blocks ah) s1)(t:Int):bc FF 201 [.int .i64 t,.pointer (some ⟨C,0,none⟩)] h (fun v j=>v=.bool (!(decide (1<=t)&&decide (t<=(blocks.l:Int)-1)))/\ay aZ h j):=by
 have a:=cg ((blocks.l:Int)-1) ab ab;refine bc.of zj ?_;unfold qw;simp[q,bx,a];refine bm.call (aj (fE h t 1 ((blocks.l:Int)-1))) ?_;rintro _ h2⟨rfl,rfl⟩;simp;exact .refl w
structure Py(n:Nat)(aB:Int)(b:GB):Prop where
 kind:(b.kind=1/\b.to=[])\/(b.kind=2/\∃t,b.to=[t])\/(b.kind=3/\∃t u,b.to=[t,u]/\t≠u)
 to:∀t∈b.to,agn n t
 on:b.on.1=true->0<=b.on.2/\b.on.2<=aB-1
def EL(n:Nat)(ts:List Int):Bool:=ts.any fun t=> !(decide (1<=t)&&decide (t<=(n:Int)-1))
def Lx{n:Nat}{ts:List Int}(h:EL n ts=false):∀t∈ts,agn n t:=by intro t a;unfold EL at h;rw[List.any_eq_false] at h;have:=h t a;simp at this;exact this
def AD{r:Bool}(h:He aB r n=0):r=true->0<=n/\n<=aB-1:=by intro q;unfold He at h;split at h;cases h;rename_i j;by_cases a:0<=n/\n<=aB-1;exact a;exact absurd ⟨q,a⟩ j
def abe(Q:cr h)(hw:GR h)(hr:0<=aB/\aB<1000000)(qW:blocks.l<1000000){b:GB}(dJ:b.to.length<140737488355329)(Z:aD nR 1 h T.v b.to):bc FF 140 [.agg ⟨bx gs fs name params aB blocks ah⟩,.agg ⟨[.int .i64 b.kind,.bool b.on.1,.int .i64 b.on.2,T.v]⟩] h (fun v Y=>ay aZ h Y/\∃c:Int,v=.int .i64 c/\(c=0->Py blocks.l aB b)):=by
 obtain⟨ph,li,kind,⟨r,n⟩,to⟩:=b;simp only at Z dJ⊢;obtain⟨ro,o,s,SX⟩:=hw;have h0:0<h.aw:=Q.wf _ _ SX;have u5:=aD.len Z;refine bc.of B7 ?_;unfold tF;simp[bx];refine bm.cut (fun h2=>ay aZ h h2/\h2.tr.get h.aw=some (.bZ (bx gs fs name params aB blocks ah) false 0 0)/\h2.tr.get (h.aw+1)=some (.bZ [.int .i64 kind,.bool r,.int .i64 n,T.v] false 0 0)) ?_ ?_
 exact⟨((ay.refl Q).new _ _).new _ _,by simp[bx],ae⟩;rintro h2⟨a,yQ,w⟩;have q:=a.get Q SX;simp[ways] at q;refine bm.call (aj (fE h2 kind 1 3)) ?_;rintro _ xZ⟨rfl,he⟩;rw[he];have zD:=yQ;simp[bx] at zD;simp at w;by_cases hk:1<=kind/\kind<=3
 .have E7:(decide (1<=kind)&&decide (kind<=3))=true:=aj hk
  have pq:∀h1,ay aZ h2 h1->bc FF 200 [T.v,.func (.func 201) #[] #[.pointer (some ⟨h.aw,0,none⟩)]] h1 (fun v Y=>v=.bool (EL blocks.l to)/\ay aZ h1 Y):=by intro h1 O;refine DD O.ok (Z.mono Q (a.trans O) fun _ _ h=>h) dJ _ fun E n H=>?_;refine dU.func ?_;have:=Xy H.ok qW (H.get O.ok (O.get a.ok yQ (fun h=>h))) n;simpa using this
  have QC:∀h1,ay aZ h2 h1->bc FF 202 [.agg ⟨bx gs fs name params aB blocks ah⟩,.agg ⟨[.bool r,.int .i64 n]⟩] h1 (fun v Y=>v=.int .i64 (He aB r n)/\ay aZ h1 Y):=fun h1 O=>zX h1 O.ok hr r n;have hkk:kind=1\/kind=2\/kind=3:=ab
  rcases hkk with rfl|rfl|rfl
  .by_cases hl:to.length=0;have aja:to=[]:=List.length_eq_zero_iff.1 hl;subst aja;have D:T.l=0:=u5;rw[D] at w;simp[w,q];refine bm.call (by simpa [D] using pq (tick h2) (bC a.ok)) ?_;rintro _ E⟨rfl,H⟩;have j:=(bC a.ok).trans H;have I:=j.get a.ok w;have N:=j.get a.ok zD;simp[EL,I,N];refine bm.call (by simpa [bx] using QC (tick E) (j.trans (bC j.ok))) ?_;rintro _ h4⟨rfl,g4⟩;simp;exact⟨((a.trans j).trans (bC j.ok)).trans g4,fun h=>⟨.inl ⟨rfl,rfl⟩,ae,AD h⟩⟩
   .have U:((T.l:Int) !=0)=true:=by simp;omega
    simp[w,q,U];exact a.tick
  .by_cases hl:to.length=1
   .obtain⟨t,rfl⟩:∃t,to=[t]:=List.length_eq_one_iff.1 hl;have D:T.l=1:=u5;rw[D] at w;simp[w,q];refine bm.call (by simpa [D] using pq (tick h2) (bC a.ok)) ?_;rintro _ E⟨rfl,H⟩;have j:=(bC a.ok).trans H;have I:=j.get a.ok w;have N:=j.get a.ok zD;cases J:EL blocks.l [t] with
    |true=>
     simp;exact a.trans j
    |false=>
     by_cases hz:r=false/\n=0;obtain⟨rfl,rfl⟩:=hz;simp[I,N];refine bm.call (by simpa [bx] using QC (tick E) (j.trans (bC j.ok))) ?_;rintro _ h4⟨rfl,g4⟩;simp;exact⟨((a.trans j).trans (bC j.ok)).trans g4,fun _=>⟨.inr (.inl ⟨rfl,t,rfl⟩),Lx J,fun h=>by cases h⟩⟩
     .have hz':(r|| !(n==0))=true:=by cases r;simp at hz⊢;exact hz;rfl
      simp[I,N,hz'];exact(a.trans j).tick
   .have U:((T.l:Int) !=1)=true:=by simp;omega
    simp[w,q,U];exact a.tick
  .by_cases hl:to.length=2
   .obtain⟨t,u,rfl⟩:∃t u,to=[t,u]:=by
     match to,hl with
     |[t,u],_=>exact⟨t,u,rfl⟩
    have D:T.l=2:=u5;rw[D] at w;obtain⟨b0,off0,c0,Bh,_,_,rfl,_,ajj⟩:=aD.later Q Z (i:=0) (x:=t) rfl;obtain⟨b1,YM,c1,anI,_,_,rfl,_,Fg⟩:=aD.later Q Z (i:=1) (x:=u) rfl;rw[Bh] at anI w;cases anI;simp[w,q];refine bm.call (by simpa [D,Bh] using pq (tick h2) (bC a.ok)) ?_;rintro _ E⟨rfl,H⟩;have j:=(bC a.ok).trans H;have I:=j.get a.ok w;have N:=j.get a.ok zD;have r0:=ajj E (a.trans j) 0 1 ag;have r1:=Fg E (a.trans j) 0 1 ag;simp[-ax] at r0 r1;cases J:EL blocks.l [t,u] with
    |true=>
     simp;exact a.trans j
    |false=>
     by_cases M:t=u;subst M;simp[aQ,aF I,r0,r1,-ax];exact(a.trans j).tick
     .have awm:(t==u)=false:=aj M
      simp[aQ,aF I,aF N,r0,r1,awm,-ax];refine bm.call (by simpa [bx] using QC (tick E) (j.trans (bC j.ok))) ?_;rintro _ h4⟨rfl,g4⟩;simp;exact⟨((a.trans j).trans (bC j.ok)).trans g4,fun h=>⟨.inr (.inr ⟨rfl,t,u,rfl,M⟩),Lx J,AD h⟩⟩
   .have U:((T.l:Int) !=2)=true:=by simp;omega
    simp[w,q,U];exact a.tick
 .have E7:(decide (1<=kind)&&decide (kind<=3))=false:=aj hk
  simp[E7];exact a
end
def lsR(h:az)(c:List Value)(l:List Int):Prop:=∃S:SV,c=[S.v]/\aD nR 1 h S.v l
def lsR.mono{h h':az}(a:cr h)(g:ay aZ h h'){c:List Value}{x:List Int}(r:lsR h c x):lsR h' c x:=by obtain⟨A,e,s⟩:=r;exact⟨A,e,s.mono a g fun _ _ h=>h⟩
def vh(aB:Int)(v:Bool×Int):Prop:=v.1=true->0<=v.2/\v.2<=aB-1
def yy(aB:Int)(n:Int):Prop:=0<=n/\n<=aB-1
def NS(h:NR aB n=0):yy aB n:=by unfold NR at h;split at h;cases h;rename_i a;unfold yy;omega
def qp(aB:Int)(l:List (Bool×Int)):Prop:=∀v∈l,vh aB v
def qp.nil(aB:Int):qp aB []:=fun _ h=>by simp at h
def qp.take{aB:Int}{l:List (Bool×Int)}{j:Nat}{v:Bool×Int}(h:qp aB (l.take j))(w:l[j]?=some v)(q:vh aB v):qp aB (l.take (j+1)):=by intro n a;rw[lg,w] at a;rcases jS.1 a with h1|h1;exact h n h1;simp at h1;rw[h1];exact q
def uu{a b:Int}(h:¬a=b):(a !=b)=true:=aj h
structure Lq(aB:Int)(n:Nat)(p:GP):Prop where
 dst:yy aB p.dst
 len:p.row.length=n
 row:qp aB p.row
section
variable{gs fs blocks ah:SV}{name:ByteArray}{params aB:Int}
def ade(U:cr h)(hr:0<=aB/\aB<1000000){mP:List (List Int)}(hA:aD (lsR h) 1 h ah.v mP){i:Nat}{l:List Int}(hi:mP[i]?=some l){p:GP}(dJ:p.row.length<140737488355329){W:SV}(hW:aD vR 2 h W.v p.row):bc FF 142 [.agg ⟨bx gs fs name params aB blocks ah⟩,.int .i64 i,.agg ⟨[.int .i64 p.dst,W.v]⟩] h (fun v h'=>ay aZ h h'/\∃c:Int,v=.int .i64 c/\(c=0->i≠0/\Lq aB l.length p)):=by
 have zF:=aD.len hW;have ni:=aD.len hA;refine bc.of Ca ?_;unfold tH;by_cases h0:i=0
 subst h0;simp[bx];exact((ay.refl U).new _ _).new _ _;have h0':((i:Int)==0)=false:=by simp;omega
 obtain⟨ba,offa,ca,Bf,gh,_,⟨S,rfl,hS⟩,oA,Y⟩:=aD.later U hA hi;have hSl:=aD.len hS;simp[bx,h0',h0];refine bm.cut (fun h2=>ay aZ h h2/\h2.tr.get h.aw=some (.bZ (bx gs fs name params aB blocks ah) false 0 0)/\h2.tr.get (h.aw+1)=some (.bZ [.int .i64 p.dst,W.v] false 0 0)) ?_ ?_
 exact⟨((ay.refl U).new _ _).new _ _,by simp[bx],ae⟩;rintro h2⟨M,yQ,eC⟩;refine bm.call (by simpa [bx] using Ig (gs:=gs) (fs:=fs) (name:=name) (params:=params) (blocks:=blocks) (ah:=ah) h2 M.ok hr p.dst) ?_;rintro _ h3⟨rfl,Z⟩;have D:=M.trans Z;have O:=Z.get M.ok yQ;have eD:=Z.get M.ok eC;by_cases E:NR aB p.dst=0
 .have rA:=Y h3 D 0 1 ag;simp[-ax] at rA;simp[bx] at O;simp at eD;by_cases Ki:p.row.length=l.length
  .have e1:((W.l:Int) !=(S.l:Int))=false:=by simp;omega
   simp[E,aQ,aF eD,aF O,Bf,ni,gh,rA,e1,-ax];refine aO.loop (fun m e N=>∃j:Nat,m=p.row.length-j/\j<=p.row.length/\cm e 3 h.aw/\bH e 31=W.v/\bJ e 32 p.row.length/\bJ e 33 j/\ay aZ h3 N/\qp aB (p.row.take j)) ?_ (n:=p.row.length)
    ⟨0,rfl,ab,ae,ae,au zF,ae,bC D.ok,.nil _⟩
   rintro m e N⟨j,rfl,hj,f3,q,a,w,g4,hv⟩;have H:=D.trans g4;have I:=g4.get D.ok O;unfold qK;by_cases bk:j<p.row.length
   .have hx:p.row[j]?=some p.row[j]:=g_ bk;generalize p.row[j]=v at hx;obtain⟨b,off,c,J,_,_,rfl,oW,cZ⟩:=aD.later U hW hx;have r0:=cZ N H 0 2 ag;simp[-ax] at r0;have wj:=cg (j+1) ab ab;have oC4:=H.ok.cn I;simp at q;simp[f3,q,a,w,J,zF,bk,r0,aF I,aH,cH,bw,oC4,-ax];refine bm.cut (fun h5=>ay aZ N h5) ?_ ?_
    exact((ay.refl H.ok).new _ _).put ⟨0,ae⟩ (.inl (fh _));rintro h5 g5;have u3:=H.trans g5;refine bm.call (by simpa [bx] using zX (gs:=gs) (fs:=fs) (name:=name) (params:=params) (blocks:=blocks) (ah:=ah) h5 u3.ok hr v.1 v.2) ?_;rintro _ h6⟨rfl,g6⟩;by_cases Q:He aB v.1 v.2=0
    simp[f3,q,a,w,Q,wj];refine⟨p.row.length-(j+1),ab,j+1,rfl,ab,⟨J,zF⟩,ae,(g4.trans g5).trans g6,hv.take hx (AD Q)⟩;have:=uu Q;simp[this];exact⟨u3.trans g6,fun h=>absurd h Q⟩
   .have:j=p.row.length:=ab
    subst this;rw[jT] at hv;simp[a,w];exact⟨H,⟨NS E,Ki,hv⟩⟩
  .have e1:((W.l:Int) !=(S.l:Int))=true:=by simp;omega
   simp[E,aQ,aF eD,aF O,Bf,ni,gh,rA,e1,-ax];exact D.tick
 have:=uu E;simp[this];exact⟨D,fun h=>absurd h E⟩
end
def cJ(s:Bool×Bool×Bool)(x:GI)(n:Nat):Bool:=
 (!s.1&&x.dst != -1)||((!s.2.1&& !(!x.a.1&&x.a.2==0))||((!s.2.2&& !(!x.b.1&&x.b.2==0))||(!(x.op==20)&&(x.fn !=0||decide (0<n)))))
def afJ{s:Bool×Bool×Bool}{R:Env->az->Prop}(E:fC h X (aJ x.op x.dst x.a.1 x.a.2 x.b.1 x.b.2 x.fn A.v) s1)(J:fC h S [.bool s.1,.bool s.2.1,.bool s.2.2] s2)(I:fC h K [.bool (x.op==20)] s3)(q:cm e 3 X)(a:cm e 5 S)(j:cm e 6 K)(H:∀e',bH e' 2=bH e 2->bH e' 3=bH e 3->bH e' 5=bH e 5->bH e' 6=bH e 6->bH e' 62=.bool (cJ s x A.l)->R e' h):bm FF Uw e h R:=by
 obtain⟨op,Q,⟨U,an⟩,⟨Z,Y⟩,fn,args⟩:=x;obtain⟨sd,sa,sb⟩:=s;simp[aJ] at E J I;unfold Uw;cases sd with
 |true=>
  cases sa with
  |true=>
   cases sb with
   |true=>
    cases w:(op==20) with
    |true=>
     simp[q,a,j,E,J,I,bne,w];refine H _ ?_ ?_ ?_ ?_ ?_<;>simp[cJ,q,a,j,bne,w]
    |false=>
     cases N:(fn==0) with
     |true=>
      simp[q,a,j,E,J,I,bne,w,N];refine H _ ?_ ?_ ?_ ?_ ?_<;>simp[cJ,q,a,j,bne,w,N]
     |false=>
      simp[q,a,j,E,J,I,bne,w,N];refine H _ ?_ ?_ ?_ ?_ ?_<;>simp[cJ,q,a,j,bne,w,N]
   |false=>
    cases Z with
    |true=>
     simp[q,a,j,E,J,I,bne];refine H _ ?_ ?_ ?_ ?_ ?_<;>simp[cJ,q,a,j,bne]
    |false=>
     cases O:(Y==0) with
     |false=>
      simp[q,a,j,E,J,I,bne,O];refine H _ ?_ ?_ ?_ ?_ ?_<;>simp[cJ,q,a,j,bne,O]
     |true=>
      cases w:(op==20) with
      |true=>
       simp[q,a,j,E,J,I,bne,O,w];refine H _ ?_ ?_ ?_ ?_ ?_<;>simp[cJ,q,a,j,bne,O,w]
      |false=>
       cases N:(fn==0) with
       |true=>
        simp[q,a,j,E,J,I,bne,O,w,N];refine H _ ?_ ?_ ?_ ?_ ?_<;>simp[cJ,q,a,j,bne,O,w,N]
       |false=>
        simp[q,a,j,E,J,I,bne,O,w,N];refine H _ ?_ ?_ ?_ ?_ ?_<;>simp[cJ,q,a,j,bne,O,w,N]
  |false=>
   cases sb with
   |true=>
    cases U with
    |true=>
     simp[q,a,j,E,J,I,bne];refine H _ ?_ ?_ ?_ ?_ ?_<;>simp[cJ,q,a,j,bne]
    |false=>
     cases M:(an==0) with
     |false=>
      simp[q,a,j,E,J,I,bne,M];refine H _ ?_ ?_ ?_ ?_ ?_<;>simp[cJ,q,a,j,bne,M]
     |true=>
      cases w:(op==20) with
      |true=>
       simp[q,a,j,E,J,I,bne,M,w];refine H _ ?_ ?_ ?_ ?_ ?_<;>simp[cJ,q,a,j,bne,M,w]
      |false=>
       cases N:(fn==0) with
       |true=>
        simp[q,a,j,E,J,I,bne,M,w,N];refine H _ ?_ ?_ ?_ ?_ ?_<;>simp[cJ,q,a,j,bne,M,w,N]
       |false=>
        simp[q,a,j,E,J,I,bne,M,w,N];refine H _ ?_ ?_ ?_ ?_ ?_<;>simp[cJ,q,a,j,bne,M,w,N]
   |false=>
    cases U with
    |true=>
     simp[q,a,j,E,J,I,bne];refine H _ ?_ ?_ ?_ ?_ ?_<;>simp[cJ,q,a,j,bne]
    |false=>
     cases M:(an==0) with
     |false=>
      simp[q,a,j,E,J,I,bne,M];refine H _ ?_ ?_ ?_ ?_ ?_<;>simp[cJ,q,a,j,bne,M]
     |true=>
      cases Z with
      |true=>
       simp[q,a,j,E,J,I,bne,M];refine H _ ?_ ?_ ?_ ?_ ?_<;>simp[cJ,q,a,j,bne,M]
      |false=>
       cases O:(Y==0) with
       |false=>
        simp[q,a,j,E,J,I,bne,M,O];refine H _ ?_ ?_ ?_ ?_ ?_<;>simp[cJ,q,a,j,bne,M,O]
       |true=>
        cases w:(op==20) with
        |true=>
         simp[q,a,j,E,J,I,bne,M,O,w];refine H _ ?_ ?_ ?_ ?_ ?_<;>simp[cJ,q,a,j,bne,M,O,w]
        |false=>
         cases N:(fn==0) with
         |true=>
          simp[q,a,j,E,J,I,bne,M,O,w,N];refine H _ ?_ ?_ ?_ ?_ ?_<;>simp[cJ,q,a,j,bne,M,O,w,N]
         |false=>
          simp[q,a,j,E,J,I,bne,M,O,w,N];refine H _ ?_ ?_ ?_ ?_ ?_<;>simp[cJ,q,a,j,bne,M,O,w,N]
 |false=>
  cases sa with
  |true=>
   cases sb with
   |true=>
    cases D:(Q== -1) with
    |false=>
     simp[q,a,j,E,J,I,bne,D];refine H _ ?_ ?_ ?_ ?_ ?_<;>simp[cJ,q,a,j,bne,D]
    |true=>
     cases w:(op==20) with
     |true=>
      simp[q,a,j,E,J,I,bne,D,w];refine H _ ?_ ?_ ?_ ?_ ?_<;>simp[cJ,q,a,j,bne,D,w]
     |false=>
      cases N:(fn==0) with
      |true=>
       simp[q,a,j,E,J,I,bne,D,w,N];refine H _ ?_ ?_ ?_ ?_ ?_<;>simp[cJ,q,a,j,bne,D,w,N]
      |false=>
       simp[q,a,j,E,J,I,bne,D,w,N];refine H _ ?_ ?_ ?_ ?_ ?_<;>simp[cJ,q,a,j,bne,D,w,N]
   |false=>
    cases D:(Q== -1) with
    |false=>
     simp[q,a,j,E,J,I,bne,D];refine H _ ?_ ?_ ?_ ?_ ?_<;>simp[cJ,q,a,j,bne,D]
    |true=>
     cases Z with
     |true=>
      simp[q,a,j,E,J,I,bne,D];refine H _ ?_ ?_ ?_ ?_ ?_<;>simp[cJ,q,a,j,bne,D]
     |false=>
      cases O:(Y==0) with
      |false=>
       simp[q,a,j,E,J,I,bne,D,O];refine H _ ?_ ?_ ?_ ?_ ?_<;>simp[cJ,q,a,j,bne,D,O]
      |true=>
       cases w:(op==20) with
       |true=>
        simp[q,a,j,E,J,I,bne,D,O,w];refine H _ ?_ ?_ ?_ ?_ ?_<;>simp[cJ,q,a,j,bne,D,O,w]
       |false=>
        cases N:(fn==0) with
        |true=>
         simp[q,a,j,E,J,I,bne,D,O,w,N];refine H _ ?_ ?_ ?_ ?_ ?_<;>simp[cJ,q,a,j,bne,D,O,w,N]
        |false=>
         simp[q,a,j,E,J,I,bne,D,O,w,N];refine H _ ?_ ?_ ?_ ?_ ?_<;>simp[cJ,q,a,j,bne,D,O,w,N]
  |false=>
   cases sb with
   |true=>
    cases D:(Q== -1) with
    |false=>
     simp[q,a,j,E,J,I,bne,D];refine H _ ?_ ?_ ?_ ?_ ?_<;>simp[cJ,q,a,j,bne,D]
    |true=>
     cases U with
     |true=>
      simp[q,a,j,E,J,I,bne,D];refine H _ ?_ ?_ ?_ ?_ ?_<;>simp[cJ,q,a,j,bne,D]
     |false=>
      cases M:(an==0) with
      |false=>
       simp[q,a,j,E,J,I,bne,D,M];refine H _ ?_ ?_ ?_ ?_ ?_<;>simp[cJ,q,a,j,bne,D,M]
      |true=>
       cases w:(op==20) with
       |true=>
        simp[q,a,j,E,J,I,bne,D,M,w];refine H _ ?_ ?_ ?_ ?_ ?_<;>simp[cJ,q,a,j,bne,D,M,w]
       |false=>
        cases N:(fn==0) with
        |true=>
         simp[q,a,j,E,J,I,bne,D,M,w,N];refine H _ ?_ ?_ ?_ ?_ ?_<;>simp[cJ,q,a,j,bne,D,M,w,N]
        |false=>
         simp[q,a,j,E,J,I,bne,D,M,w,N];refine H _ ?_ ?_ ?_ ?_ ?_<;>simp[cJ,q,a,j,bne,D,M,w,N]
   |false=>
    cases D:(Q== -1) with
    |false=>
     simp[q,a,j,E,J,I,bne,D];refine H _ ?_ ?_ ?_ ?_ ?_<;>simp[cJ,q,a,j,bne,D]
    |true=>
     cases U with
     |true=>
      simp[q,a,j,E,J,I,bne,D];refine H _ ?_ ?_ ?_ ?_ ?_<;>simp[cJ,q,a,j,bne,D]
     |false=>
      cases M:(an==0) with
      |false=>
       simp[q,a,j,E,J,I,bne,D,M];refine H _ ?_ ?_ ?_ ?_ ?_<;>simp[cJ,q,a,j,bne,D,M]
      |true=>
       cases Z with
       |true=>
        simp[q,a,j,E,J,I,bne,D,M];refine H _ ?_ ?_ ?_ ?_ ?_<;>simp[cJ,q,a,j,bne,D,M]
       |false=>
        cases O:(Y==0) with
        |false=>
         simp[q,a,j,E,J,I,bne,D,M,O];refine H _ ?_ ?_ ?_ ?_ ?_<;>simp[cJ,q,a,j,bne,D,M,O]
        |true=>
         cases w:(op==20) with
         |true=>
          simp[q,a,j,E,J,I,bne,D,M,O,w];refine H _ ?_ ?_ ?_ ?_ ?_<;>simp[cJ,q,a,j,bne,D,M,O,w]
         |false=>
          cases N:(fn==0) with
          |true=>
           simp[q,a,j,E,J,I,bne,D,M,O,w,N];refine H _ ?_ ?_ ?_ ?_ ?_<;>simp[cJ,q,a,j,bne,D,M,O,w,N]
          |false=>
           simp[q,a,j,E,J,I,bne,D,M,O,w,N];refine H _ ?_ ?_ ?_ ?_ ?_<;>simp[cJ,q,a,j,bne,D,M,O,w,N]
section
variable{gs fs blocks ah:SV}{name:ByteArray}{params aB:Int}
def wM(P:Int->Prop)(h:az)(v:Value)(h':az):Prop:=ay aZ h h'/\∃c:Int,v=.int .i64 c/\P c
def afa(U:cr h){Q Y Z:Value}{P1 P2 P3:Int->Prop}(hb:fC h b [Q,Y,Z] s)(H1:∀h1,ay aZ h h1->dU FF Q [] h1 (wM P1 h1))(H2:∀h1,ay aZ h h1->dU FF Y [] h1 (wM P2 h1))(H3:∀h1,ay aZ h h1->dU FF Z [] h1 (wM P3 h1)):bc FF 204 [.slice (some ⟨b,0,none⟩) 3 3] h (wM (fun c=>c=0->P1 0/\P2 0/\P3 0) h):=by
 refine bc.of Nq ?_;unfold Di;simp;have w1:IntKind.i64.wrap (0+1)=1:=cg _ ab ab;have N:IntKind.i64.wrap 1=1:=cg _ ab ab;have w2:IntKind.i64.wrap (1+1)=2:=cg _ ab ab;have M:IntKind.i64.wrap 2=2:=cg _ ab ab;have w3:IntKind.i64.wrap (2+1)=3:=cg _ ab ab;have H:IntKind.i64.wrap 3=3:=cg _ ab ab;refine aO.loop (fun n e h1=>∃i:Nat,n=3-i/\i<=3/\bJ e 8 (i:Nat)/\bJ e 7 3/\bH e 6=.slice (some ⟨b,0,none⟩) 3 3/\(0<i->P1 0)/\(1<i->P2 0)/\(2<i->P3 0)/\ay aZ h h1) ?_ (n:=3)
  ⟨0,rfl,ab,ae,ae,ae,ae,ae,ae,.refl U⟩
 rintro n e h1⟨i,rfl,hi,q,w,D,J,O,p3,g⟩;have I:=g.get U hb;unfold zS;rcases(show i=0\/i=1\/i=2\/i=3 by omega) with rfl|rfl|rfl|rfl
 simp[q,w,D,I];refine bm.e_ (V:=wM P1 h1) (aj (H1 h1 g)) ?_;rintro _ h2⟨j,c,rfl,E⟩;by_cases a:c=0;subst a;simp[q,w,D,w1,N];exact⟨2,ab,1,rfl,ab,rfl,fun _=>E,ab,ab,g.trans j⟩;have:=uu a;simp[this];exact⟨g.trans j,c,rfl,fun h=>absurd h a⟩
 simp[q,w,D,I];refine bm.e_ (V:=wM P2 h1) (aj (H2 h1 g)) ?_;rintro _ h2⟨j,c,rfl,E⟩;by_cases a:c=0;subst a;simp[q,w,D,w2,M];exact⟨1,ab,2,rfl,ab,rfl,fun _=>J ab,fun _=>E,ab,g.trans j⟩;have:=uu a;simp[this];exact⟨g.trans j,c,rfl,fun h=>absurd h a⟩
 simp[q,w,D,I];refine bm.e_ (V:=wM P3 h1) (aj (H3 h1 g)) ?_;rintro _ h2⟨j,c,rfl,E⟩;by_cases a:c=0;subst a;simp[q,w,D,w3,H];exact⟨3,ab,ab,rfl,fun _=>J ab,fun _=>O ab,fun _=>E,g.trans j⟩;have:=uu a;simp[this];exact⟨g.trans j,c,rfl,fun h=>absurd h a⟩
 simp[q,w];exact⟨g,0,rfl,fun _=>⟨J ab,O ab,p3 ab⟩⟩
def Ym(a:cr h)(hr:0<=aB/\aB<1000000){cl:Bool}(hK:fC h K [.bool cl] s3)(w:fC h X (aJ x.op x.dst x.a.1 x.a.2 x.b.1 x.b.2 x.fn A.v) s2)(hC:fC h C (bx gs fs name params aB blocks ah) s1)(hF:aD (fR h) 4 h fs.v funcs)(lZ:funcs.length<1000000/\∀f∈funcs,f.params<=6)(hA:aD vR 2 h A.v x.args)(dJ:x.args.length<140737488355329):bc FF 207 [.pointer (some ⟨K,0,none⟩),.pointer (some ⟨X,0,none⟩),.pointer (some ⟨C,0,none⟩)] h (wM (fun c=>c=0->cl=true->qp aB x.args/\x.args.length<=6) h):=by
 have ni:=aD.len hA;have Q:=aD.len hF;obtain⟨lZ,avP⟩:=lZ;have wf:=cg ((fs.l:Int)-1) ab ab;refine bc.of zn ?_;unfold qz;simp[aJ] at w;have q:=hC;simp[bx] at q;cases cl with
 |false=>
  simp[hK];exact⟨.refl a,0,rfl,trivial⟩
 |true=>
  simp[hK,w,q,wf];refine bm.call (aj (fE h x.fn 0 ((fs.l:Int)-1))) ?_;rintro _ h2⟨rfl,eh⟩;rw[eh];by_cases Mb:0<=x.fn/\x.fn<=(fs.l:Int)-1
  .obtain⟨k,Z⟩:∃k:Nat,x.fn=k:=⟨x.fn.toNat,ab⟩;have oK:k<funcs.length:=ab
   have E:funcs[k]?=some funcs[k]:=g_ oK;generalize funcs[k]=f at E;have hp6:=avP f (cN E);obtain⟨bf,offf,cf,CZ,_,_,⟨B,rfl,_⟩,_,M⟩:=aD.later a hF E;have rf:=M (tick h) (bC a) 1 1 ag;simp[-ax,aQ] at rf;have Y:(decide (0<=x.fn)&&decide (x.fn<=(fs.l:Int)-1))=true:=aj Mb
   rw[Y];rw[Z] at w;rw[CZ,Q] at q;by_cases wg:(A.l:Int)=f.params
   .have e1:((A.l:Int) !=f.params)=false:=by simp[wg]
    simp[Z,w,q,Q,aQ,aF w,aF q,oK,rf,e1,-ax];refine aO.loop (fun m e O=>∃j:Nat,m=x.args.length-j/\j<=x.args.length/\cm e 2 C/\bH e 34=A.v/\bJ e 35 x.args.length/\bJ e 36 j/\ay aZ h O/\qp aB (x.args.take j)) ?_ (n:=x.args.length)
     ⟨0,rfl,ab,ae,ae,au ni,ae,bC a,.nil _⟩
    rintro m e O⟨j,rfl,hj,f2,I,D,H,J,hv⟩;have N:=J.get a q;unfold oi;by_cases bk:j<x.args.length
    .have E:x.args[j]?=some x.args[j]:=g_ bk;generalize x.args[j]=v at E;obtain⟨b,off,c,Bf,_,_,rfl,oW,cZ⟩:=aD.later a hA E;have r0:=cZ O J 0 2 ag;simp[-ax] at r0;have wj:=cg (j+1) ab ab;have oC4:=J.ok.cn N;simp at I;simp[f2,I,D,H,Bf,ni,bk,r0,aF N,aH,cH,bw,oC4,-ax];refine bm.cut (fun h5=>ay aZ O h5) ?_ ?_
     exact((ay.refl J.ok).new _ _).put ⟨0,ae⟩ (.inl (fh _));rintro h5 g5;have u3:=J.trans g5;refine bm.call (by simpa [bx,CZ,Q] using zX (gs:=gs) (fs:=fs) (name:=name) (params:=params) (blocks:=blocks) (ah:=ah) h5 u3.ok hr v.1 v.2) ?_;rintro _ h6⟨rfl,g6⟩;by_cases U:He aB v.1 v.2=0
     simp[f2,I,D,H,U,wj];exact⟨x.args.length-(j+1),ab,j+1,rfl,ab,⟨Bf,ni⟩,ae,u3.trans g6,hv.take E (AD U)⟩;have:=uu U;simp[this];exact⟨u3.trans g6,_,rfl,fun h=>absurd h U⟩
    .have:j=x.args.length:=ab
     subst this;rw[jT] at hv;simp[D,H];exact⟨J,0,rfl,fun _=>⟨hv,ab⟩⟩
   have e1:((A.l:Int) !=f.params)=true:=uu wg;simp[Z,w,q,Q,aQ,aF w,aF q,oK,rf,e1,-ax];exact⟨bC a,9,rfl,fun h=>by cases h⟩
  .have Y:(decide (0<=x.fn)&&decide (x.fn<=(fs.l:Int)-1))=false:=aj Mb
   simp[Y];exact⟨.refl a,3,rfl,fun h=>by cases h⟩
end
def Uv:aG:=(G_ [o_ 81 (.uk 205 [t_ 2,t_ 3]),o_ 82 (.uk 206 [t_ 2,t_ 3]),o_ 83 (.uk 207 [t_ 6,t_ 3,t_ 2]),o_ 84 (.fm 3 [.nilFunc,.nilFunc,.nilFunc] [(0,(1,(t_ 81))),(1,(1,(t_ 82))),(2,(1,(t_ 83)))]),F_ 85 204 [t_ 84],m_ 4 85] .ret)
def agl:Oi=.seq (G_ [f_ 63 0 5,l_ 64 63,m_ 65 64,q_ 66 65 true (.load none (t_ 6)),q_ 67 65 true (.mv (t_ 66)),q_ 68 67 true (.cq 1 (t_ 3)),q_ 69 67 true (.load none (t_ 68)),q_ 70 67 true (.bin .eql [1] (t_ 69) (.const (.int .i64 (Int.negSucc 0)))),q_ 71 65 true (.pick (t_ 67) (t_ 70) (b_ false)),q_ 72 65 true (.un .not (t_ 71)),o_ 73 (.pick (t_ 65) (t_ 72) (b_ false))] (I_ 73 (G_ [L_ 74 7 2,f_ 75 1 3,l_ 76 75,F_ 77 203 [t_ 74,t_ 76],m_ 7 77] (G_ [m_ 78 7,o_ 79 (.bin .neq [1] (t_ 78) (i_ 0))] (I_ 79 (G_ [m_ 80 7,m_ 4 80] .ret) .skip))) .skip)) Uv:=rfl
structure vd(aB:Int)(x:GI):Prop where
 op:1<=x.op/\x.op<=22
 form:cJ (dK x.op) x x.args.length=false
 dst:(dK x.op).1=true->¬(x.op=20/\x.dst= -1)->yy aB x.dst
 a:vh aB x.a
 b:vh aB x.b
 args:x.op=20->qp aB x.args/\x.args.length<=6
section
variable{gs fs blocks ah:SV}{name:ByteArray}{params aB:Int}
def amm(aB:Int)(x:GI)(c:Int):Prop:=c=0->((dK x.op).1=true->¬(x.op=20/\x.dst= -1)->yy aB x.dst)/\vh aB x.a/\vh aB x.b/\(x.op=20->qp aB x.args/\x.args.length<=6)
def acv(a:cr h)(q:0<=aB/\aB<1000000)(J:fC h K [.bool (x.op==20)] s3)(w:fC h X (aJ x.op x.dst x.a.1 x.a.2 x.b.1 x.b.2 x.fn A.v) s2)(j:fC h C (bx gs fs name params aB blocks ah) s1)(Q:aD (fR h) 4 h fs.v funcs)(M:funcs.length<1000000/\∀f∈funcs,f.params<=6)(O:aD vR 2 h A.v x.args)(I:x.args.length<140737488355329)(N:fC h b [.func (.func 205) #[] #[.pointer (some ⟨C,0,none⟩),.pointer (some ⟨X,0,none⟩)],.func (.func 206) #[] #[.pointer (some ⟨C,0,none⟩),.pointer (some ⟨X,0,none⟩)],.func (.func 207) #[] #[.pointer (some ⟨K,0,none⟩),.pointer (some ⟨X,0,none⟩),.pointer (some ⟨C,0,none⟩)]] s):bc FF 204 [.slice (some ⟨b,0,none⟩) 3 3] h (wM (fun c=>c=0->vh aB x.a/\vh aB x.b/\(x.op=20->qp aB x.args/\x.args.length<=6)) h):=by
 have F:=afa (P1:=fun c=>c=0->vh aB x.a) (P2:=fun c=>c=0->vh aB x.b) (P3:=fun c=>c=0->(x.op==20)=true->qp aB x.args/\x.args.length<=6) a N (fun h1 g=>by
  refine dU.func ?_;have:=Yk g.ok q (g.get a j) (g.get a w);refine bc.mono (aj this) ?_;rintro v H⟨rfl,D⟩;exact⟨D,_,rfl,fun h=>AD h⟩) (fun h1 g=>by
  refine dU.func ?_;have:=Yl g.ok q (g.get a j) (g.get a w);refine bc.mono (aj this) ?_;rintro v H⟨rfl,D⟩;exact⟨D,_,rfl,fun h=>AD h⟩) (fun h1 g=>by
  refine dU.func ?_;have:=Ym g.ok q (g.get a J) (g.get a w) (g.get a j) (Q.mono a g fun _ _ r=>r.mono a g) M (O.mono a g fun _ _ h=>h) I;simpa using this)
 refine F.mono ?_;rintro v H⟨g,c,rfl,E⟩;exact⟨g,c,rfl,fun h=>⟨(E h).1 rfl,(E h).2.1 rfl,fun e=>(E h).2.2 rfl (au e)⟩⟩
def acx(q:cr h)(hr:0<=aB/\aB<1000000){C X K S s1 s2 s3 s4:Nat}(M:fC h K [.bool (x.op==20)] s3)(hX:fC h X (aJ x.op x.dst x.a.1 x.a.2 x.b.1 x.b.2 x.fn A.v) s2)(hC:fC h C (bx gs fs name params aB blocks ah) s1)(O:fC h S [.bool (dK x.op).1,.bool (dK x.op).2.1,.bool (dK x.op).2.2] s4)(hF:aD (fR h) 4 h fs.v funcs)(lZ:funcs.length<1000000/\∀f∈funcs,f.params<=6)(hA:aD vR 2 h A.v x.args)(dJ:x.args.length<140737488355329)(N:cm e 2 C)(J:cm e 3 X)(f5:cm e 5 S)(I:cm e 6 K){QQ:bK->Env->az->Prop}(H:∀c e' h',ay aZ h h'->bJ e' 4 c->amm aB x c->QQ .ret e' h'):aO FF Oi e h QQ:=by
 have w:∀(Y:az)(j:Env),ay aZ h Y->cm j 2 C->cm j 3 X->cm j 6 K->((dK x.op).1=true->¬(x.op=20/\x.dst= -1)->yy aB x.dst)->aO FF Uv j Y QQ:=by
  intro Y j g5 q2 q3 q6 Q;unfold Uv;simp[q2,q3,q6];refine bm.cut (fun h7=>ay aZ Y h7/\h7.tr.get Y.aw=some (.bZ [.func (.func 205) #[] #[.pointer (some ⟨C,0,none⟩),.pointer (some ⟨X,0,none⟩)],.func (.func 206) #[] #[.pointer (some ⟨C,0,none⟩),.pointer (some ⟨X,0,none⟩)],.func (.func 207) #[] #[.pointer (some ⟨K,0,none⟩),.pointer (some ⟨X,0,none⟩),.pointer (some ⟨C,0,none⟩)]] false 0 0)) ?_ ?_;exact⟨(ay.refl g5.ok).new _ _,ae⟩;rintro h7⟨g7,hB7⟩;have D:=g5.trans g7;refine bm.call (V:=wM (fun c=>c=0->vh aB x.a/\vh aB x.b/\(x.op=20->qp aB x.args/\x.args.length<=6)) h7) (aj (acv D.ok hr (D.get q M) (D.get q hX) (D.get q hC) (hF.mono q D fun _ _ r=>r.mono q D) lZ (hA.mono q D fun _ _ h=>h) dJ hB7)) ?_;rintro _ h8⟨g8,c,rfl,Z⟩;simp;exact H c _ _ (D.trans g8) ae (fun h=>⟨Q,Z h⟩)
 rw[agl];have dj:=hX;simp[aJ] at dj;cases E:(dK x.op).1 with
 |false=>
  rw[E] at O;simp[f5,O];refine w h _ (.refl q) (au N) (au J) (au I) (fun h=>by rw[E] at h;cases h)
 |true=>
  rw[E] at O;have after:∀j,cm j 2 C->cm j 3 X->cm j 6 K->bJ j 76 x.dst->bH j 74=.agg ⟨bx gs fs name params aB blocks ah⟩->True:=fun _ _ _ _ _ _=>trivial;cases Z:(x.op==20) with
  |true=>
   rw[Z] at M;cases Q:(x.dst== -1) with
   |true=>
    simp[f5,I,J,O,M,dj,Q];refine w h _ (.refl q) (au N) (au J) (au I) (fun _ h=>absurd ⟨aj Z,aj Q⟩ h)
   |false=>
    simp[f5,I,J,N,O,M,dj,Q,hC,bx];refine bm.call (by simpa [bx] using Ig (gs:=gs) (fs:=fs) (name:=name) (params:=params) (blocks:=blocks) (ah:=ah) h q hr x.dst) ?_;rintro _ h3⟨rfl,U⟩;by_cases a:NR aB x.dst=0;simp[a];exact w h3 _ U (au N) (au J) (au I) (fun _ _=>NS a);have:=uu a;simp[this];exact H _ _ _ U ae (fun h=>absurd h a)
  |false=>
   rw[Z] at M;simp[f5,I,J,N,O,M,dj,hC,bx];refine bm.call (by simpa [bx] using Ig (gs:=gs) (fs:=fs) (name:=name) (params:=params) (blocks:=blocks) (ah:=ah) h q hr x.dst) ?_;rintro _ h3⟨rfl,U⟩;by_cases a:NR aB x.dst=0;simp[a];exact w h3 _ U (au N) (au J) (au I) (fun _ _=>NS a);have:=uu a;simp[this];exact H _ _ _ U ae (fun h=>absurd h a)
def acu(M:cr h)(hr:0<=aB/\aB<1000000)(hF:aD (fR h) 4 h fs.v funcs)(lZ:funcs.length<1000000/\∀f∈funcs,f.params<=6)(hA:aD vR 2 h A.v x.args)(dJ:x.args.length<140737488355329):bc FF 143 [.agg ⟨bx gs fs name params aB blocks ah⟩,.agg ⟨aJ x.op x.dst x.a.1 x.a.2 x.b.1 x.b.2 x.fn A.v⟩] h (wM (fun c=>c=0->vd aB x) h):=by
 have ni:=aD.len hA;refine bc.of B9 ?_;unfold tG;simp[bx,aJ];refine bm.cut (fun h2=>ay aZ h h2/\h2.tr.get h.aw=some (.bZ (bx gs fs name params aB blocks ah) false 0 0)/\h2.tr.get (h.aw+1)=some (.bZ (aJ x.op x.dst x.a.1 x.a.2 x.b.1 x.b.2 x.fn A.v) false 0 0)) ?_ ?_;exact⟨((ay.refl M).new _ _).new _ _,by simp[bx],by simp[aJ]⟩;rintro h2⟨D,yQ,eC⟩;refine bm.call (aj (fE h2 x.op 1 22)) ?_;rintro _ xZ⟨rfl,he⟩;rw[he];by_cases O:1<=x.op/\x.op<=22
 .have N:(decide (1<=x.op)&&decide (x.op<=22))=true:=aj O
  have TX:=eC;simp[aJ] at TX;rw[N];simp[TX];refine bm.call (aj (GD h2 D.ok x.op)) ?_;rintro _ H⟨rfl,g3⟩;have j:=D.trans g3;have SJ:=g3.get D.ok yQ;have Q:=g3.get D.ok eC;have Y:=j.ok.cn Q;have oC3:=j.ok.cn SJ;have Qz:=Q;simp[aJ] at Qz;simp[Qz,Y];refine bm.cut (fun J=>ay aZ H J/\(dg J H.aw [.bool (dK x.op).1,.bool (dK x.op).2.1,.bool (dK x.op).2.2])/\dg J (H.aw+1) [.bool (x.op==20)]) ?_ ?_
  exact⟨((((ay.refl j.ok).new _ _).put ⟨0,ae⟩ (.inl ab)).new _ _).put ⟨0,ae⟩ (.inl ab),⟨H.clock,ae⟩,⟨H.clock+1,ae⟩⟩;rintro J⟨U,⟨s4,w⟩,⟨s5,E⟩⟩;have q:=j.trans U;have Z:=U.get j.ok SJ;have kR:=U.get j.ok Q;refine afJ (x:=x) (s:=dK x.op) kR w E ae ae ae ?_;intro e5 q2 q3 q5 q6 I;simp at q2 q3 q5 q6;cases a:cJ (dK x.op) x A.l with
  |true=>
   rw[a] at I;simp[I];exact⟨q,5,rfl,fun h=>by cases h⟩
  |false=>
   rw[a] at I;simp[I];refine acx q.ok hr E kR Z w (hF.mono M q fun _ _ r=>r.mono M q) lZ (hA.mono M q fun _ _ h=>h) dJ q2 q3 q5 q6 ?_;intro c e' h' g' q4 hT;simp[q4];refine⟨q.trans g',c,rfl,fun h=>?_⟩;obtain⟨t1,t2,t3,t4⟩:=hT h;exact⟨O,by rw[<-ni];exact a,t1,t2,t3,t4⟩
 .have N:(decide (1<=x.op)&&decide (x.op<=22))=false:=aj O
  rw[N];simp;exact⟨D,4,rfl,fun h=>by cases h⟩
end
set_option maxRecDepth 100000
def aj7:VO Tryz.prog (qV Tryz.prog) 218:=by obtain⟨a,j⟩:=Option.isSome_iff_exists.mp (show(qV Tryz.prog 44).isSome=true by kernel_rfl);exact⟨Tryz.f218,59,44,{ u:=.slice 44,size:=1,bytes:=24,zero:=[.slice none 0 0],agg:=false },a,Tryz.func218,by kernel_rfl,by kernel_rfl,by kernel_rfl,by kernel_rfl,by kernel_rfl,by kernel_rfl,rfl,j⟩
def ahQ:GO Tryz.prog (qV Tryz.prog) 1 (fF (qV Tryz.prog) 1) FF0:=VD (TK XD) aj7
def aeF:FF0 166=some ⟨[.tmp 6],vA [.bool false,.int .i64 0] 2 16 218 219,.no⟩:=by kernel_rfl
def ahR:GO Tryz.prog (qV Tryz.prog) 1 (fF (qV Tryz.prog) 1) FF1:=
 Sz ahQ (Sl _) aeF (fov:=⟨[],.bad,.Rv⟩) rfl rfl rfl ag ag
def adI:Go.Shelf.Ren:=⟨fun|6=>197 |15=>245 |14=>244 |28=>273 |29=>274 |20=>265 |21=>266 |22=>267 |23=>268 |24=>269 |25=>270 |26=>271 |27=>272 |46=>277 |47=>278 |48=>279 |49=>280 |50=>281 |57=>282 |n=>n,fun|22=>235 |24=>237 |25=>239 |3=>3 |39=>173 |0=>0 |53=>245 |55=>248 |4=>4 |46=>299 |45=>298 |50=>189 |5=>5 |9=>9 |66=>308 |70=>312 |76=>314 |77=>209 |n=>n,fun|n=>n⟩
theorem g_k{α:Type}{a:Option α}{b c:α}(h:a=some b)(k:b=c:=by kernel_rfl):a=some c:=k▸h
def axU:Go.Proofs.SlLaysF0.n6 Tryz.prog adI where
 mixed:=by kernel_rfl
 f6:=⟨Tryz.f197.name,ag,g_k Tryz.func197⟩
 f14:=⟨Tryz.f244.name,ag,g_k Tryz.func244⟩
 f15:=g_k Tryz.func245
 f20:=⟨Tryz.f265.name,ag,g_k Tryz.func265⟩
 f21:=⟨Tryz.f266.name,ag,g_k Tryz.func266⟩
 f22:=⟨Tryz.f267.name,ag,g_k Tryz.func267⟩
 f23:=⟨Tryz.f268.name,ag,g_k Tryz.func268⟩
 f24:=⟨Tryz.f269.name,ag,g_k Tryz.func269⟩
 f25:=⟨Tryz.f270.name,ag,g_k Tryz.func270⟩
 f26:=⟨Tryz.f271.name,ag,g_k Tryz.func271⟩
 f27:=⟨Tryz.f272.name,ag,g_k Tryz.func272⟩
 f28:=g_k Tryz.func273
 f29:=g_k Tryz.func274
 f46:=⟨Tryz.f277.name,ag,g_k Tryz.func277⟩
 f47:=g_k Tryz.func278
 f48:=g_k Tryz.func279
 f49:=⟨Tryz.f280.name,ag,g_k Tryz.func280⟩
 f50:=⟨Tryz.f281.name,ag,g_k Tryz.func281⟩
 f57:=⟨Tryz.f282.name,ag,g_k Tryz.func282⟩
 t0:=Tryz.underlying0
 a0:=Tryz.isAgg0
 z0:=Tryz.sizeOf0
 v0:=Tryz.zeroValue0
 t3:=Tryz.underlying3
 a3:=Tryz.isAgg3
 z3:=Tryz.sizeOf3
 v3:=Tryz.zeroValue3
 t4:=Tryz.underlying4
 a4:=Tryz.isAgg4
 z4:=Tryz.sizeOf4
 v4:=Tryz.zeroValue4
 t5:=Tryz.underlying5
 a5:=Tryz.isAgg5
 z5:=Tryz.sizeOf5
 v5:=Tryz.zeroValue5
 t9:=Tryz.underlying9
 a9:=Tryz.isAgg9
 z9:=Tryz.sizeOf9
 v9:=Tryz.zeroValue9
 t22:=Tryz.underlying235
 a22:=Tryz.isAgg235
 z22:=Tryz.sizeOf235
 v22:=Tryz.zeroValue235
 t25:=Tryz.underlying239
 a25:=Tryz.isAgg239
 z25:=Tryz.sizeOf239
 v25:=Tryz.zeroValue239
 t39:=Tryz.underlying173
 a39:=Tryz.isAgg173
 z39:=Tryz.sizeOf173
 v39:=Tryz.zeroValue173
 t45:=Tryz.underlying298
 a45:=Tryz.isAgg298
 z45:=Tryz.sizeOf298
 v45:=Tryz.zeroValue298
 t46:=Tryz.underlying299
 a46:=Tryz.isAgg299
 z46:=Tryz.sizeOf299
 v46:=Tryz.zeroValue299
 t50:=Tryz.underlying189
 a50:=Tryz.isAgg189
 z50:=Tryz.sizeOf189
 v50:=Tryz.zeroValue189
 t53:=Tryz.underlying245
 a53:=Tryz.isAgg245
 z53:=Tryz.sizeOf245
 v53:=Tryz.zeroValue245
 t55:=Tryz.underlying248
 a55:=Tryz.isAgg248
 z55:=Tryz.sizeOf248
 v55:=Tryz.zeroValue248
 t66:=Tryz.underlying308
 a66:=Tryz.isAgg308
 z66:=Tryz.sizeOf308
 v66:=Tryz.zeroValue308
 t70:=Tryz.underlying312
 a70:=Tryz.isAgg312
 z70:=Tryz.sizeOf312
 v70:=Tryz.zeroValue312
 t76:=Tryz.underlying314
 a76:=Tryz.isAgg314
 z76:=Tryz.sizeOf314
 v76:=Tryz.zeroValue314
 t77:=Tryz.underlying209
 a77:=Tryz.isAgg209
 z77:=Tryz.sizeOf209
 v77:=Tryz.zeroValue209
open Go.Shelf Go.RowKit Go.Sort in
set_option maxHeartbeats 1000000 in
def agj(x y:Px)(W:World):Calls Tryz.prog 198 #[.agg (te x).toArray,.agg (te y).toArray] W fun e a=>e=.returned (.int .i64 (cf3 x y))/\∃q j,a=Sort.grow (W.drewN q) j:=by
 show Calls Tryz.prog 198 #[.agg #[.int .i64 (x.1.1:Int),.bool x.2.1,.int .i64 x.2.2],.agg #[.int .i64 (y.1.1:Int),.bool y.2.1,.int .i64 y.2.2]] W _;have w:IntKind.i64.wrap ((x.1.1:Int)-(y.1.1:Int))=cf3 x y:=by
  have:=x.1.2;have:=y.1.2
  simp[IntKind.wrap,IntKind.bits,IntKind.signed,cf3];omega
 go_enter Tryz.func198,Tryz.ntmps198
 go_wp2
 go_ret
 exact⟨rfl,0,_,by rw[alloc_eq_grow,alloc_eq_grow,grow_grow];rfl⟩
def al6:GO Tryz.prog (qV Tryz.prog) 1 (fF (qV Tryz.prog) 1) FF:=
 SA ahR (ZQ axU rfl Tryz.isAgg237 Tryz.sizeOf237 (enters_of Tryz.func198 (by kernel_rfl) rfl) agj ⟨Tryz.f197,Tryz.func197,by kernel_rfl,by kernel_rfl⟩)
end Go.Proofs.YtdhnndleffachaaGreatDoor
namespace Go.AI.Edge
variable{i u:Nat}{out:List (List Int)}{t x:Int}
def vX(out:List (List Int))(i:Nat)(t:Int):List (List Int):=out.set t.toNat (((out[t.toNat]?).getD [])++[(i:Int)])
def jL(out:List (List Int))(i:Nat)(ts:List Int):List (List Int):=ts.foldl (fun o t=>vX o i t) out
def upto(n:Nat)(tos:List (List Int)):Nat->List (List Int)
 |0=>List.replicate n []
 |k+1=>match tos[k]? with
  |some a=>jL (upto n tos k) k a
  |none=>upto n tos k
def dO(tos:List (List Int)):List (List Int):=upto tos.length tos tos.length
def HJ(out:List (List Int))(i:Nat)(t:Int):(vX out i t).length=out.length:=by simp[vX]
def Ei(i:Nat):∀(ts:List Int)(out:List (List Int)),(jL out i ts).length=out.length
 |[],_=>rfl
 |t::ts,out=>by show(jL (vX out i t) i ts).length=_;rw[Ei i ts,HJ]
def uO(n:Nat)(tos:List (List Int)):∀k,(upto n tos k).length=n
 |0=>by simp[upto]
 |k+1=>by
  unfold upto;cases tos[k]? with
  |none=>exact uO n tos k
  |some a=>exact(Ei k a _).trans (uO n tos k)
def mA(tos:List (List Int)):(dO tos).length=tos.length:=uO _ _ _
def MQ{ts:List Int}{j:Nat}(h:ts[j]?=some t):jL out i (ts.take (j+1))=vX (jL out i (ts.take j)) i t:=by unfold jL;rw[lg,h,List.foldl_append];rfl
def acJ(a:t.toNat<out.length):x∈((vX out i t)[u]?).getD []↔(x∈(out[u]?).getD []\/(u=t.toNat/\x=i)):=by unfold vX;rw[fL];by_cases e:t.toNat=u;subst e;rw[bM rfl,bM a];simp;rw[bU e];constructor;exact .inl;rintro(h|⟨h,_⟩);exact h;exact absurd h.symm e
def Ra{i:Nat}{u:Nat}{x:Int} :∀ {ts:List Int} {out:List (List Int)},(∀t∈ts,t.toNat<out.length)->(x∈((jL out i ts)[u]?).getD []↔(x∈(out[u]?).getD []\/(x=i/\∃t∈ts,u=t.toNat)))
 |[],out,_=>by simp[jL]
 |t::ts,out,h=>by show x∈((jL (vX out i t) i ts)[u]?).getD []↔_;rw[Ra (ts:=ts) (out:=vX out i t) (fun u q=>by rw[HJ];exact h u (uQ _ q)),acJ (h t (h_ ..))];constructor;rintro((h|⟨h,k⟩)|⟨k,j,a,h⟩);exact .inl h;exact .inr ⟨k,t,h_ ..,h⟩;exact .inr ⟨k,j,uQ _ a,h⟩;rintro(h1|⟨k,j,a,h1⟩);exact .inl (.inl h1);rcases List.mem_cons.1 a with e|a;exact .inl (.inr ⟨by rw[h1,e],k⟩);exact .inr ⟨k,j,a,h1⟩
def I7{n:Nat}{tos:List (List Int)}(h:∀j∈tos,∀t∈j,t.toNat<n){u:Nat}{x:Int} :∀k,x∈((upto n tos k)[u]?).getD []↔ ∃i:Nat,i<k/\x=i/\∃j,tos[i]?=some j/\∃t∈j,u=t.toNat
 |0=>by constructor;intro a;unfold upto at a;rw[SI] at a;split at a<;>simp at a;rintro⟨i,D,_⟩;omega
 |k+1=>by
  unfold upto;cases w:tos[k]? with
  |none=>
   dsimp only;rw[I7 h k];constructor;rintro⟨i,D,r⟩;exact⟨i,ab,r⟩;rintro⟨i,D,a,j,q,r⟩;by_cases e:i=k;subst e;rw[w] at q;cases q;exact⟨i,ab,a,j,q,r⟩
  |some j=>
   dsimp only;rw[Ra (fun t q=>by rw[uO];exact h j (cN w) t q),I7 h k];constructor;rintro(⟨i,D,r⟩|⟨a,t,q,I⟩);exact⟨i,ab,r⟩;exact⟨k,ab,a,j,w,t,q,I⟩;rintro⟨i,D,a,H,E,r⟩;by_cases e:i=k;subst e;rw[w] at E;cases E;exact .inr ⟨a,r⟩;exact .inl ⟨i,ab,a,H,E,r⟩
def Fq{tos:List (List Int)}(h:∀a∈tos,∀t∈a,t.toNat<tos.length) :x∈((dO tos)[u]?).getD []↔ ∃i:Nat,x=i/\∃a,tos[i]?=some a/\∃t∈a,u=t.toNat:=by unfold dO;rw[I7 h];constructor;rintro⟨i,_,r⟩;exact⟨i,r⟩;rintro⟨i,q,a,j,r⟩;exact⟨i,(di.mp j).1,q,a,j,r⟩
def acH(out:List (List Int))(i:Nat)(t:Int)(u:Nat):(((vX out i t)[u]?).getD []).length<=((out[u]?).getD []).length+1:=by unfold vX;rw[fL];by_cases e:t.toNat=u;subst e;rw[bM rfl];split;simp;simp;rw[bU e];omega
def DU(i u:Nat):∀(ts:List Int)(out:List (List Int)),(((jL out i ts)[u]?).getD []).length<=((out[u]?).getD []).length+ts.length
 |[],out=>by simp[jL]
 |t::ts,out=>by have h1:=DU i u ts (vX out i t);have h2:=acH out i t u;show(((jL (vX out i t) i ts)[u]?).getD []).length<=_;simp only[List.length_cons];omega
def xn{n:Nat}{tos:List (List Int)}(h:∀a∈tos,a.length<=2)(u:Nat):∀k,(((upto n tos k)[u]?).getD []).length<=2*k
 |0=>by unfold upto;rw[SI];split<;>simp
 |k+1=>by
  have q:=xn (n:=n) h u k;unfold upto;cases j:tos[k]? with
  |none=>dsimp only;omega
  |some a=>
   dsimp only;have:=DU k u a (upto n tos k);have:=h a (cN j);omega
def rowOf(tss:List (List Int))(u:Nat):Nat->List Int
 |0=>[]
 |k+1=>rowOf tss u k++List.replicate ((((tss[k]?).getD []).map Int.toNat).count u) (k:Int)
def RS(i u:Nat):∀(ts:List Int)(out:List (List Int)),(∀t∈ts,t.toNat<out.length)->((jL out i ts)[u]?).getD []=((out[u]?).getD [])++List.replicate ((ts.map Int.toNat).count u) (i:Int)
 |[],out,_=>by simp[jL]
 |t::ts,out,h=>by
  show((jL (vX out i t) i ts)[u]?).getD []=_;rw[RS i u ts (vX out i t) (fun x j=>by rw[HJ];exact h x (uQ _ j))];have a:=h t (h_ ..);have e:((vX out i t)[u]?).getD []=((out[u]?).getD [])++(if t.toNat=u then [(i:Int)] else []):=by unfold vX;rw[fL];by_cases e:t.toNat=u;subst e;rw[bM rfl,bM a,bM rfl];rfl;rw[bU e,bU e,Bc]
  rw[e,xX,List.count_cons,G1];congr 1;by_cases e:t.toNat=u;rw[bM e];simp[e,List.replicate_succ];rw[bU e];simp[e]
def J1{tss:List (List Int)}{n:Nat}(h:∀a∈tss,∀t∈a,t.toNat<n)(u:Nat):∀k,((upto n tss k)[u]?).getD []=rowOf tss u k
 |0=>by unfold upto rowOf;rw[SI];split<;>rfl
 |k+1=>by
  unfold upto rowOf;cases j:tss[k]? with
  |none=>
   dsimp only;rw[J1 h u k];simp
  |some a=>
   dsimp only;rw[RS k u a _ (fun t q=>by rw[uO];exact h a (cN j) t q),J1 h u k];rfl
def Xg{tss:List (List Int)}(h:∀ts∈tss,∀t∈ts,t.toNat<tss.length){ps:List Int}(a:(dO tss)[u]?=some ps):ps=rowOf tss u tss.length:=by have:=J1 h u tss.length;unfold dO at a;rw[a] at this;exact this
end Go.AI.Edge
namespace Go.Proofs.YtdhnndleffachaaGreatDoor
open Go.AI
variable{AH B F G T:SV}{C b bytes c d f k l n n0 o s sC:Nat}{QQ:bK->Env->az->Prop}{R:Env->az->Prop}{bs:List GB}{e e':Env}{fl funcs:List GF}{h h1 h2:az}{mP:List (List Int)}{names ns xs:List ByteArray}{rb ro:Bool}{v:Value}{ws:List SV}{x:Int}{z:List Value}{α:Type}
def encI:Enc Int:=⟨fun x=>[.int .i64 x],1,fun _=>rfl,ag,fun _=>rfl⟩
@[simp] def Wc:encI.sz=1:=rfl
@[simp] def amI(x:Int):encI.enc x=[.int .i64 x]:=rfl
def rj:Enc SV:=⟨fun w=>[w.v],1,fun _=>rfl,ag,fun w=>rfl⟩
@[simp] def ae6:rj.sz=1:=rfl
@[simp] def amN(w:SV):rj.enc w=[w.v]:=rfl
def bu.C5{E:Enc α}{xs:List α}(a:bu E n0 h v xs):∃L:SV,v=L.v:=by rcases a with⟨_,rfl⟩|⟨b,s,rfl,_⟩;exact⟨⟨none,0,0⟩,rfl⟩;exact⟨⟨some ⟨b,0,none⟩,xs.length,xs.length⟩,rfl⟩
structure mz{α:Type}(E:Enc α)(n0:Nat)(h:az)(d:Nat)(ws:List SV)(mP:List (List α)):Prop where
 bZ:dg h d (rj.flat ws)
 len:ws.length=mP.length
 acc:∀(i:Nat)(w:SV)(xs:List α),ws[i]?=some w->mP[i]?=some xs->bu E n0 h w.v xs
 dis:∀(i j:Nat)(wi wj:SV)(b:Nat),ws[i]?=some wi->ws[j]?=some wj->i≠j->bt wi.v b->¬bt wj.v b
 new:n0<=d
 xV:∀(i:Nat)(w:SV),ws[i]?=some w->¬bt w.v d
def mz.grow{α:Type}{E:Enc α}{n0:Nat}{S:Nat->Prop}{h h':az}{d:Nat}{ws:List SV}{mP:List (List α)}(w:mz E n0 h d ws mP)(q:cr h)(g:ay S h h')(D:∀b,n0<=b->¬S b):mz E n0 h' d ws mP:=by obtain⟨s,j⟩:=w.bZ;refine⟨⟨s,g.get q j (D _ w.new)⟩,w.len,fun i H xs h1 h2=>?_,w.dis,w.new,w.xV⟩;have a:=w.acc i H xs h1 h2;exact a.grow q g (fun b j=>D b (a.of j))
def mz.ck{E:Enc α}{h h':az}{mP:List (List α)}(w:mz E n0 h d ws mP)(a:cr h)(g:ay aZ h h'):mz E n0 h' d ws mP:=w.grow a g ai
def Sh(ws:List SV)(i:Nat)(x:SV)(h:i<ws.length):bg (rj.flat ws) i [x.v]=rj.flat (ws.set i x):=by have:=rj.qT ws i x h;simpa using this
def CK(j:h.tr.get d=some (.bZ (rj.flat ws) ro o s)){x:SV}(a:ws[k]?=some x):cD h d k 1=some [x.v]:=by have q:=(di.mp a).1;rw[fD j (by rw[rj.dV];show k+1<=ws.length*1;omega)];have:=rj.pW ws k 0 1 x a ag;simp only[gU_] at this;rw[show k=k*rj.sz from(Nat.mul_one k).symm,this];rfl
def mz.set{α:Type}{E:Enc α}{n0:Nat}{h h2:az}(U:cr h){d:Nat}{ws:List SV}{mP:List (List α)}(w:mz E n0 h d ws mP){i:Nat}{O W:SV}{xs ys:List α}(Z:ws[i]?=some O)(hx:mP[i]?=some xs)(g:ay (bt O.v) h h2)(a:bu E n0 h2 W.v ys)(Q:∀b,bt W.v b->h.aw<=b):∃s,h2.tr.get d=some (.bZ (rj.flat ws) false 0 s)/\mz E n0 (put h2 d i (rj.flat ws) [W.v] 0) d (ws.set i W) (mP.set i ys):=by
 obtain⟨s,D⟩:=w.bZ;have hdl:=(U.cn D).lt;have J:=(di.mp Z).1;have Y:=g.get U D (w.xV i O Z);refine⟨s,Y,?_⟩;have gp:ay (· =d) h2 (put h2 d i (rj.flat ws) [W.v] 0):=aY g.ok Y;refine⟨⟨h2.clock,by rw[aP,Sh ws i W J]⟩,by simp[w.len],fun j H zs h1 q=>?_,fun j k wj wk b h1 q M I Pm=>?_,w.new,fun j H h1=>?_⟩
 rw[fL] at h1 q;by_cases e:i=j;subst e;rw[bM rfl,bM J] at h1;rw[bM rfl,bM (by rw[<-w.len];exact J)] at q;cases h1;cases q;exact a.grow g.ok gp (fun b D e=>av (Q b D));rw[bU e] at h1 q;have a':=w.acc j H zs h1 q;exact(a'.grow U g (fun b D Y=>w.dis i j O H b Z h1 e Y D)).grow g.ok gp (fun b D N=>w.xV j H h1 (N▸D))
 .rw[fL] at h1 q;have cn:∀(k:Nat)(H:SV),ws[k]?=some H->∀b,bt H.v b->b<h.aw:=by
   intro k H hk b D;have oK:=(di.mp hk).1;obtain⟨off,n,cap,e⟩:=D;rcases w.acc k H _ hk (g_ (by rw[<-w.len];exact oK)) with⟨_,N⟩|⟨b',s',N,ia,_⟩
   rw[N] at e;cases e;rw[N] at e;cases e;exact U.wf _ _ ia
  by_cases e:i=j;subst e;rw[bM rfl,bM J] at h1;rw[bU M] at q;cases h1;have h4:=Q b I;have h5:=cn k wk q b Pm;omega
  .rw[bU e] at h1;by_cases e':i=k;subst e';rw[bM rfl,bM J] at q;cases q;have:=Q b Pm;have:=cn j wj h1 b I;omega
   rw[bU e'] at q;exact w.dis j k wj wk b h1 q M I Pm
 .rw[fL] at h1;by_cases e:i=j;subst e;rw[bM rfl,bM J] at h1;cases h1;exact fun D=>av (Q d D)
  rw[bU e] at h1;exact w.xV j H h1
def fx{E:Enc α}(I:cr h){v w:Value}{xs:List α}{y:α}(H:z.length=E.sz)(a:bu E n0 h v xs)(hw:bj E h w [y])(hl:xs.length<1000000)(yW:bytes<=1000)(M:n0<=h.aw):∃j q,fS h z bytes false v w=some (j,q)/\bu E n0 q j (xs++[y])/\ay (bt v) h q/\∀b,bt j b->b=h.aw:=by
 unfold fS;rw[yj H hw];dsimp only;have O:roomy (xs.length+1)=true:=by simp[roomy];omega
 have r2:roomy ((xs.length+1)*bytes)=true:=by have:(xs.length+1)*bytes<=1000000*1000:=Nat.mul_le_mul ab yW;simp[roomy];omega
 have J:=E.pos;have U:E.sz≠0:=ab
 rcases a with⟨rfl,rfl⟩|⟨b,s,rfl,Q,hx,IB⟩
 .have N:roomy bytes=true:=by simp[roomy];omega
  refine⟨.slice (some ⟨h.aw,0,none⟩) 1 1,aK h (E.flat [y]) E.sz,?_,.inr ⟨h.aw,0,rfl,ae,ae,M⟩,(aN I _ _).ck,?_⟩;have Y:roomy 1=true:=rfl;simp[dy,H,J,N,Y];rintro b⟨off,n,D,e⟩;cases e;rfl
 .refine⟨.slice (some ⟨h.aw,0,none⟩) (xs.length+1) (xs.length+1),aK {h with tr:=h.tr.del b} (E.flat xs++E.flat [y]) E.sz,?_,.inr ⟨h.aw,0,ae,?_,ae,M⟩,?_,?_⟩
  .have e1:¬xs.length+1<=xs.length:=ab
   have Z:(E.flat xs).take (xs.length*E.sz)=E.flat xs:=pg ae;simp[dy,H,J,O,r2,Q,e1,Z,U]
  have:=bz {h with tr:=h.tr.del b} (E.flat xs++E.flat [y]) E.sz;rw[Enc.d_];exact this;refine((ir I b).cY ?_).trans (aN (ir I b).ok _ _).ck;rintro x _ rfl;exact⟨_,_,_,rfl⟩;rintro b'⟨off,n,D,e⟩;cases e;rfl
def aM(l:List Nat)(e e':Env):Prop:=∀t,t∉l->bH e' t=bH e t
def aM.refl(l:List Nat)(e:Env):aM l e e:=fun _ _=>rfl
def aM.set{l:List Nat}{e e':Env}{k:Nat}{v:Value}(K:aM l e e')(j:k∈l:=by decide):aM l e (Tr.set e' k v):=fun t a=>by rw[Env.bN,bU (by rintro rfl;exact a j)];exact K t a
def aq {p:Prop} (h:p:=by (repeat (refine aM.set ?_));assumption):p:=h
def aM.at{l:List Nat}{t:Nat}(K:aM l e e')(f:bH e t=v)(a:t∉l:=by decide):bH e' t=v:=(K t a).trans f
def aM.trans{l:List Nat}{e w j:Env}(a:aM l e w)(b:aM l w j):aM l e j:=fun t q=>(b t q).trans (a t q)
def cR{F:Nat->Option cV}{d:Option Nat}{l:List bX}{o:Option (Value×az)}(a:o=some (v,h))(H:bm F l (gy e d v) h R):VN F d l e R o:=by rw[a];exact H
def mn{F:Nat->Option cV}{a:List Nat}{d:Option Nat}{m:List (bX×List Nat)}{o:Option (Value×az)}(j:o=some (v,h))(H:still (gy e d v) h k a=true/\cu F k m (gy e d v) h R):VM F k a d m e R o:=by rw[j];exact H
def aC(name:ByteArray)(params aB:Int)(blocks:SV):List Value:=[.string name,.int .i64 params,.int .i64 aB,blocks.v]
def VU(w:mz encI n0 h d ws mP):aD (lsR h) 1 h (SV.v ⟨some ⟨d,0,none⟩,mP.length,c⟩) mP:=by
 obtain⟨s,H⟩:=w.bZ;refine⟨_,c,rfl,.inr ⟨d,0,_,_,_,_,rfl,H,fun i xs D=>?_⟩⟩;have J:=(di.mp D).1;obtain⟨j,q⟩:=aV ws i (show i<ws.length by rw[w.len];exact J);have:=rj.Ac ws i j q;simp only[ae6,Nat.mul_one] at this;rw[Hj,Nat.mul_one,this];refine⟨rfl,j,rfl,?_⟩;have a:=w.acc i j xs q D;rcases a with⟨rfl,e⟩|⟨b,M,e,I,N,_⟩
 rw[e];exact⟨none,0,rfl,.inl ⟨rfl,.inl rfl⟩⟩;rw[e];refine⟨_,_,rfl,.inr ⟨b,0,_,_,_,_,rfl,I,fun k x E=>?_⟩⟩;have:=encI.Ac xs k x E;simp only[Wc,Nat.mul_one] at this;rw[Hj,Nat.mul_one,this];exact⟨rfl,rfl⟩
def PG(h:az)(M:cr h)(E:Enc α)(n n0:Nat)(I:n0<=h.aw):mz E n0 (aK h (jn [.slice none 0 0] n) 0) h.aw (List.replicate n cK) (List.replicate n []):=by
 have D:jn [Value.slice none 0 0] n=rj.flat (List.replicate n cK):=by
  have:∀n,jn [Value.slice none 0 0] n=rj.flat (List.replicate n cK):=by
   intro n;induction n with
   |zero=>rfl
   |succ n q=>rw[List.replicate_succ,Enc.ij,<-q];rfl
  exact this n
 refine⟨⟨0,by rw[<-D];exact bz _ _ _⟩,ae,fun i w xs h1 h2=>?_,fun i j J N b h1 _ _ a=>?_,I,fun i w h1 a=>?_⟩;rw[SI] at h1 h2;split at h1;rename_i H;rw[bM H] at h2;cases h1;cases h2;exact .inl ⟨rfl,rfl⟩;cases h1;rw[SI] at h1;split at h1<;>cases h1;obtain⟨_,_,_,e⟩:=a;cases e;rw[SI] at h1;split at h1<;>cases h1;obtain⟨_,_,_,e⟩:=a;cases e
def alW(h h2:az)(b:GB)(mP:List (List Int))(n0 d k:Nat)(e:Env)(m:Nat)(e':Env)(a:az):Prop:=
 ∃(j:Nat) (q:List SV),m=b.to.length-j/\j<=b.to.length/\bJ e' 24 j/\aM [25,26,27,7,28,29,30,31,32,33,34,35,36,37,38,24] e e'/\ay aZ h a/\h2.aw<=a.aw/\mz encI n0 a d q (Edge.jL mP k (b.to.take j))
def TM(ok:cr h){b:GB}(hT:aD nR 1 h T.v b.to)(h2l:b.to.length<=2)(hn:n<=1000)(ht:∀t∈b.to,0<=t/\t<n)(w:mz encI n0 h2 d ws mP)(xG:mP.length=n)(dJ:∀u:Nat,((mP[u]?).getD []).length<=2*k)(hk:k<=1000)(g2:ay aZ h h2)(uU:n0<=h2.aw)(avA:h.aw<=n0)(f3:bH e 3=.slice (some ⟨d,0,none⟩) n n)(f4:bJ e 4 k)(f22:bH e 22=T.v)(f23:bJ e 23 b.to.length)(f24:bJ e 24 0)(C:∀e' Q a,ay aZ h Q->h2.aw<=Q.aw->aM [25,26,27,7,28,29,30,31,32,33,34,35,36,37,38,24] e e'->mz encI n0 Q d a (Edge.jL mP k b.to)->QQ (.exit 2) e' Q):aO FF (.loop rF) e h2 QQ:=by
 have u5:=aD.len hT;refine aO.loop (alW h h2 b mP n0 d k e) ?_ (n:=b.to.length)
  ⟨0,ws,rfl,ab,f24,aM.refl _ _,g2,fh _,by simpa [Edge.jL] using w⟩
 rintro m e' M⟨j,a,rfl,hj,D,K,H,hnx,q⟩;unfold rF;have q3:=K.at f3;have q4:=K.at f4;have I:=K.at f22;have Zd:=K.at f23;by_cases bk:j<b.to.length
 .have hx:b.to[j]?=some b.to[j]:=g_ bk;have hm:=Be bk;generalize b.to[j]=t at hx hm;obtain⟨ht0,htn⟩:=ht t hm;obtain⟨u,rfl⟩:∃u:Nat,t=u:=⟨t.toNat,ab⟩;have Wt:u<n:=ab
  obtain⟨bT,off,c,Bh,_,_,rfl,_,cZ⟩:=aD.later ok hT hx;have r0:=cZ M H 0 1 ag;simp[-ax] at r0;have wj:=cg (j+1) ab ab;obtain⟨s3,Pp⟩:=q.bZ;have ajD:(Edge.jL mP k (b.to.take j)).length=n:=by rw[Edge.Ei,xG]
  have awv:a.length=n:=by rw[q.len,ajD]
  have J:a[u]?=some a[u]:=g_ ab;have E:(Edge.jL mP k (b.to.take j))[u]?=some (Edge.jL mP k (b.to.take j))[u]:=g_ ab;generalize a[u]=wu at J;generalize hxe:(Edge.jL mP k (b.to.take j))[u]=xs at E;have SU:=CK Pp J;have ajC:xs.length<1000000:=by
   have h1:=Edge.DU k u (b.to.take j) mP;rw[E] at h1;have xZ:=dJ u;simp at h1;have:(b.to.take j).length<=2:=by simp;omega
   simp at this;omega
  simp at I;simp[-ax] at SU;have od3:=H.ok.cn Pp;simp[q3,q4,I,Zd,D,Bh,u5,bk,r0,Wt,SU,-ax,od3];have U:=aN H.ok (encI.enc (k:Int)) 0;have w4:=q.ck H.ok U;have Y:bj encI (aK M (encI.enc (k:Int)) 0) (.slice (some ⟨M.aw,0,none⟩) 1 1) [(k:Int)]:=⟨_,_,rfl,.inr ⟨M.aw,0,_,_,_,_,rfl,bz _ _ _,ae,ae⟩⟩;obtain⟨v',h5,ha,CY,g5,ID⟩:=fx (bytes:=8) U.ok (z:=[.int .i64 0]) rfl (w4.acc u wu xs J E) Y ajC ag (by show n0<=M.aw+1;omega);refine cR ha ?_;obtain⟨V,rfl⟩:=bu.C5 CY;obtain⟨s5,N,w5⟩:=w4.set U.ok J E g5 CY (fun b O=>by rw[ID b O];exact fh _);have Z:∀b,bt wu.v b->n0<=b:=fun b O=>(q.acc u wu xs J E).of O;have hdl:u<=(rj.flat a).length-1:=by simp;omega
  have aiU:u+1<=a.length:=ab
  simp[Wt,N,aiU,wj,D];refine⟨b.to.length-(j+1),ab,j+1,a.set u V,rfl,ab,ae,?_,?_,?_,?_⟩
  .exact aq
  have u3:ay aZ h h5:=(H.trans U).trans' g5 ai (fun b O h=>av (Z b h));exact u3.put ⟨s5,N⟩ (.inl (av q.new));have:=g5.aw;simp at this⊢;omega
  .rw[Edge.MQ hx];have:(Edge.vX (Edge.jL mP k (b.to.take j)) k (u:Int))=(Edge.jL mP k (b.to.take j)).set u (xs++[(k:Int)]):=by unfold Edge.vX;rw[gW_,E];rfl
   rw[this];simpa using w5
 .have:j=b.to.length:=ab
  subst this;rw[jT] at q;simp[Zd,D];exact C _ _ a H hnx (K.set) q
def cw(bs:List GB):List (List Int):=bs.map (·.to)
structure jB(bs:List GB):Prop where
 len:bs.length<=1000
 two:∀b∈bs,b.to.length<=2
 to:∀b∈bs,∀t∈b.to,0<=t/\t<bs.length
def AhI(h:az)(B:SV)(bs:List GB)(d:Nat)(n0:Nat)(m:Nat)(e:Env)(h2:az):Prop:=
 ∃(j:Nat) (ws:List SV),m=bs.length-j/\j<=bs.length/\bH e 3=.slice (some ⟨d,0,none⟩) bs.length bs.length/\bH e 13=B.v/\bJ e 14 bs.length/\bJ e 15 j/\ay aZ h h2/\n0<=h2.aw/\mz encI n0 h2 d ws (Edge.upto bs.length (cw bs) j)
def qG(Q:cr h){name:ByteArray}{p r:Int}(hB:qg h B bs)(E:jB bs):bc FF 101 [.agg ⟨aC name p r B⟩] h (fun v O=>ay aZ h O/\∃d ws,v=.slice (some ⟨d,0,none⟩) bs.length bs.length/\mz encI h.aw O d ws (Edge.dO (cw bs))):=by
 have H:=aD.len hB;have hl:=E.len;have r1:roomy bs.length=true:=by simp[roomy];omega
 have r2:roomy (bs.length*24)=true:=by simp[roomy];omega
 refine bc.of KA ?_;unfold BA;simp[aC,H,r1,r2];refine aO.cut (fun h1=>ay aZ h h1/\mz encI h.aw h1 (h.aw+1) (List.replicate bs.length cK) (List.replicate bs.length [])) ?_ ?_;have I:=aN Q (aC name p r B) 0;have:=PG (aK h (aC name p r B) 0) I.ok encI bs.length h.aw (Nat.le_succ _);refine⟨?_,by simpa [aC,H] using this⟩;have a:=I.new (jn [.slice none 0 0] bs.length) 0;simpa [aC,H] using a
 rintro h1⟨I,w1⟩;have hn1:h.aw+1<h1.aw:=by obtain⟨s,hb⟩:=w1.bZ;exact I.ok.cn hb
 refine aO.loop (AhI h B bs (h.aw+1) h.aw) ?_ (n:=bs.length) ⟨0,_,rfl,ab,ae,au H,au H,ae,I,ab,by simpa [Edge.upto] using w1⟩;rintro m e h2⟨j,ws,rfl,hj,M,D,q,w,a,QH,w2⟩;unfold yG;by_cases Z:j<bs.length
 .have U:bs[j]?=some bs[j]:=g_ Z;have Y:=Be Z;generalize bs[j]=x at U Y;obtain⟨bb,off,c,fp,_,_,⟨P,L,T,rfl,sP,sL,sT⟩,_,cZ⟩:=aD.later Q hB U;have r0:=cZ h2 a 0 6 ag;simp[-ax] at r0;have wj:=cg (j+1) ab ab;have u5:=aD.len sT;simp at D;have J:=D;rw[fp,H] at J;simp[M,J,q,w,Z,r0,-ax,aH];refine aO.cut (fun h3=>ay aZ h2 h3) ?_ ?_
  exact(ay.refl a.ok).var _ _;rintro h3 N;have ef:=a.trans N;refine TM Q sT (E.two x Y) E.len (E.to x Y) (k:=j) (w2.ck a.ok N) (Edge.uO _ _ _) (fun u=>Edge.xn (fun ts Al=>?_) u j) ab ef (sx QH N.aw) (fh _) (au M) ae ae (au u5) ae ?_
  unfold cw at Al;obtain⟨y,hy,rfl⟩:=jo.1 Al;exact E.two y hy
  .intro e' O vS g' SQ K w';have yV:=K.at (t:=15) (ak w);have q3:=K.at (t:=3) (ak M);have Hd:=K.at (t:=13) (ak D);have xy:=K.at (t:=14) (ak q);simp[yV,wj];refine⟨bs.length-(j+1),ab,j+1,vS,rfl,ab,au q3,au Hd,au xy,ae,g',sx QH (sx N.aw SQ),?_⟩;have X6:(cw bs)[j]?=some x.to:=by simp[cw,U]
   have:Edge.upto bs.length (cw bs) (j+1)=Edge.jL (Edge.upto bs.length (cw bs) j) j x.to:=by show(match(cw bs)[j]? with|some ts=>Edge.jL (Edge.upto bs.length (cw bs) j) j ts|none=>Edge.upto bs.length (cw bs) j)=_;rw[X6]
   rw[this];exact w'
 .have:j=bs.length:=ab
  subst this;simp[M,q,w];refine⟨a,ws,?_⟩;have:Edge.dO (cw bs)=Edge.upto bs.length (cw bs) bs.length:=by simp[Edge.dO,cw]
  rw[this];exact w2
def alY(h h2:az)(b:GB)(mP:List (List Int))(n0 d k:Nat)(e:Env)(m:Nat)(e':Env)(a:az):Prop:=
 ∃(j:Nat) (q:List SV),m=b.to.length-j/\j<=b.to.length/\bJ e' 24 j/\aM [25,26,27,7,28,29,30,31,32,33,34,35,36,37,38,24] e e'/\ay aZ h a/\h2.aw<=a.aw/\mz encI n0 a d q (Edge.jL mP k (b.to.take j))
def Tp(ok:cr h){b:GB}(hT:aD nR 1 h T.v b.to)(h2l:b.to.length<=2)(hn:n<=1000)(ht:∀t∈b.to,0<=t/\t<n)(w:mz encI n0 h2 d ws mP)(xG:mP.length=n)(dJ:∀u:Nat,((mP[u]?).getD []).length<=2*k)(hk:k<=1000)(g2:ay aZ h h2)(uU:n0<=h2.aw)(avA:h.aw<=n0)(f3:bH e 3=.slice (some ⟨d,0,none⟩) n n)(f4:bJ e 4 k)(f22:bH e 22=T.v)(f23:bJ e 23 b.to.length)(f24:bJ e 24 0)(C:∀e' Q a,ay aZ h Q->h2.aw<=Q.aw->aM [25,26,27,7,28,29,30,31,32,33,34,35,36,37,38,24] e e'->mz encI n0 Q d a (Edge.jL mP k b.to)->QQ (.exit 2) e' Q):aO FF (.loop uC) e h2 QQ:=by
 have u5:=aD.len hT;refine aO.loop (alY h h2 b mP n0 d k e) ?_ (n:=b.to.length)
  ⟨0,ws,rfl,ab,f24,aM.refl _ _,g2,fh _,by simpa [Edge.jL] using w⟩
 rintro m e' M⟨j,a,rfl,hj,D,K,H,hnx,q⟩;unfold uC;have q3:=K.at f3;have q4:=K.at f4;have I:=K.at f22;have Zd:=K.at f23;by_cases bk:j<b.to.length
 .have hx:b.to[j]?=some b.to[j]:=g_ bk;have hm:=Be bk;generalize b.to[j]=t at hx hm;obtain⟨ht0,htn⟩:=ht t hm;obtain⟨u,rfl⟩:∃u:Nat,t=u:=⟨t.toNat,ab⟩;have Wt:u<n:=ab
  obtain⟨bT,off,c,Bh,_,_,rfl,_,cZ⟩:=aD.later ok hT hx;have r0:=cZ M H 0 1 ag;simp[-ax] at r0;have wj:=cg (j+1) ab ab;obtain⟨s3,Pp⟩:=q.bZ;have ajD:(Edge.jL mP k (b.to.take j)).length=n:=by rw[Edge.Ei,xG]
  have awv:a.length=n:=by rw[q.len,ajD]
  have J:a[u]?=some a[u]:=g_ ab;have E:(Edge.jL mP k (b.to.take j))[u]?=some (Edge.jL mP k (b.to.take j))[u]:=g_ ab;generalize a[u]=wu at J;generalize hxe:(Edge.jL mP k (b.to.take j))[u]=xs at E;have SU:=CK Pp J;have ajC:xs.length<1000000:=by
   have h1:=Edge.DU k u (b.to.take j) mP;rw[E] at h1;have xZ:=dJ u;simp at h1;have:(b.to.take j).length<=2:=by simp;omega
   simp at this;omega
  simp at I;simp[-ax] at SU;have od3:=H.ok.cn Pp;simp[q3,q4,I,Zd,D,Bh,u5,bk,r0,Wt,SU,-ax,od3];have U:=aN H.ok (encI.enc (k:Int)) 0;have w4:=q.ck H.ok U;have Y:bj encI (aK M (encI.enc (k:Int)) 0) (.slice (some ⟨M.aw,0,none⟩) 1 1) [(k:Int)]:=⟨_,_,rfl,.inr ⟨M.aw,0,_,_,_,_,rfl,bz _ _ _,ae,ae⟩⟩;obtain⟨v',h5,ha,CY,g5,ID⟩:=fx (bytes:=8) U.ok (z:=[.int .i64 0]) rfl (w4.acc u wu xs J E) Y ajC ag (by show n0<=M.aw+1;omega);refine cR ha ?_;obtain⟨V,rfl⟩:=bu.C5 CY;obtain⟨s5,N,w5⟩:=w4.set U.ok J E g5 CY (fun b O=>by rw[ID b O];exact fh _);have Z:∀b,bt wu.v b->n0<=b:=fun b O=>(q.acc u wu xs J E).of O;have hdl:u<=(rj.flat a).length-1:=by simp;omega
  have aiU:u+1<=a.length:=ab
  simp[Wt,N,aiU,wj,D];refine⟨b.to.length-(j+1),ab,j+1,a.set u V,rfl,ab,ae,?_,?_,?_,?_⟩
  .exact aq
  have u3:ay aZ h h5:=(H.trans U).trans' g5 ai (fun b O h=>av (Z b h));exact u3.put ⟨s5,N⟩ (.inl (av q.new));have:=g5.aw;simp at this⊢;omega
  .rw[Edge.MQ hx];have:(Edge.vX (Edge.jL mP k (b.to.take j)) k (u:Int))=(Edge.jL mP k (b.to.take j)).set u (xs++[(k:Int)]):=by unfold Edge.vX;rw[gW_,E];rfl
   rw[this];simpa using w5
 .have:j=b.to.length:=ab
  subst this;rw[jT] at q;simp[Zd,D];exact C _ _ a H hnx (K.set) q
def P6(Q:cr h){name:ByteArray}{p r:Int}(hB:qg h B bs)(E:jB bs):bc FF 141 [.agg ⟨aC name p r B⟩] h (fun v O=>ay aZ h O/\∃d ws,v=.slice (some ⟨d,0,none⟩) bs.length bs.length/\mz encI h.aw O d ws (Edge.dO (cw bs))):=by
 have H:=aD.len hB;have hl:=E.len;have r1:roomy bs.length=true:=by simp[roomy];omega
 have r2:roomy (bs.length*24)=true:=by simp[roomy];omega
 refine bc.of Np ?_;unfold Dh;simp[aC,H,r1,r2];refine aO.cut (fun h1=>ay aZ h h1/\mz encI h.aw h1 (h.aw+1) (List.replicate bs.length cK) (List.replicate bs.length [])) ?_ ?_;have I:=aN Q (aC name p r B) 0;have:=PG (aK h (aC name p r B) 0) I.ok encI bs.length h.aw (Nat.le_succ _);refine⟨?_,by simpa [aC,H] using this⟩;have a:=I.new (jn [.slice none 0 0] bs.length) 0;simpa [aC,H] using a
 rintro h1⟨I,w1⟩;have hn1:h.aw+1<h1.aw:=by obtain⟨s,hb⟩:=w1.bZ;exact I.ok.cn hb
 refine aO.loop (AhI h B bs (h.aw+1) h.aw) ?_ (n:=bs.length) ⟨0,_,rfl,ab,ae,au H,au H,ae,I,ab,by simpa [Edge.upto] using w1⟩;rintro m e h2⟨j,ws,rfl,hj,M,D,q,w,a,QH,w2⟩;unfold zR;by_cases Z:j<bs.length
 .have U:bs[j]?=some bs[j]:=g_ Z;have Y:=Be Z;generalize bs[j]=x at U Y;obtain⟨bb,off,c,fp,_,_,⟨P,L,T,rfl,sP,sL,sT⟩,_,cZ⟩:=aD.later Q hB U;have r0:=cZ h2 a 0 6 ag;simp[-ax] at r0;have wj:=cg (j+1) ab ab;have u5:=aD.len sT;simp at D;have J:=D;rw[fp,H] at J;simp[M,J,q,w,Z,r0,-ax,aH];refine aO.cut (fun h3=>ay aZ h2 h3) ?_ ?_
  exact(ay.refl a.ok).var _ _;rintro h3 N;have ef:=a.trans N;refine Tp Q sT (E.two x Y) E.len (E.to x Y) (k:=j) (w2.ck a.ok N) (Edge.uO _ _ _) (fun u=>Edge.xn (fun ts Al=>?_) u j) ab ef (sx QH N.aw) (fh _) (au M) ae ae (au u5) ae ?_
  unfold cw at Al;obtain⟨y,hy,rfl⟩:=jo.1 Al;exact E.two y hy
  .intro e' O vS g' SQ K w';have yV:=K.at (t:=15) (ak w);have q3:=K.at (t:=3) (ak M);have Hd:=K.at (t:=13) (ak D);have xy:=K.at (t:=14) (ak q);simp[yV,wj];refine⟨bs.length-(j+1),ab,j+1,vS,rfl,ab,au q3,au Hd,au xy,ae,g',sx QH (sx N.aw SQ),?_⟩;have X6:(cw bs)[j]?=some x.to:=by simp[cw,U]
   have:Edge.upto bs.length (cw bs) (j+1)=Edge.jL (Edge.upto bs.length (cw bs) j) j x.to:=by show(match(cw bs)[j]? with|some ts=>Edge.jL (Edge.upto bs.length (cw bs) j) j ts|none=>Edge.upto bs.length (cw bs) j)=_;rw[X6]
   rw[this];exact w'
 .have:j=bs.length:=ab
  subst this;simp[M,q,w];refine⟨a,ws,?_⟩;have:Edge.dO (cw bs)=Edge.upto bs.length (cw bs) bs.length:=by simp[Edge.dO,cw]
  rw[this];exact w2
structure xK(b:GB):Prop where
 ph:b.bD.length<=140737488355328
 li:b.list.length<=140737488355328
 to:b.to.length<=140737488355328
 row:∀p∈b.bD,p.row.length<=140737488355328
 args:∀x∈b.list,x.args.length<=140737488355328
def yY(n:Nat)(aB:Int)(bs:List GB):Prop:=∀b∈bs,Py n aB b
def yY.take{n:Nat}{aB:Int}{bs:List GB}{j:Nat}{b:GB}(h:yY n aB (bs.take j))(q:bs[j]?=some b)(w:Py n aB b):yY n aB (bs.take (j+1)):=by intro x a;rw[lg,q] at a;rcases jS.1 a with h1|h1;exact h x h1;simp at h1;rw[h1];exact w
def yY.ends{aB:Int}(h:yY bs.length aB bs)(j:bs.length<=1000):jB bs:=by refine⟨j,fun b a=>?_,fun b a t q=>?_⟩;rcases(h b a).kind with⟨_,e⟩|⟨_,t,e⟩|⟨_,t,u,e,_⟩<;>rw[e]<;>simp;have:=(h b a).to t q;unfold agn at this;omega
section
variable{gs fs blocks ah:SV}{name:ByteArray}{params aB:Int}
def ar6(h:az)(gs fs B ah:SV)(name:ByteArray)(params aB:Int)(bs:List GB)(m:Nat)(e:Env)(h2:az):Prop:=
 ∃j:Nat,m=bs.length-j/\j<=bs.length/\cm e 1 h.aw/\bH e 16=B.v/\bJ e 17 bs.length/\bJ e 18 j/\ay aZ h h2/\h2.tr.get h.aw=some (.bZ (bx gs fs name params aB B ah) false 0 0)/\yY bs.length aB (bs.take j)
def Xm(Y:cr h)(hw:GR h)(hr:0<=aB/\aB<1000000)(hB:qg h B bs)(hl:bs.length<=1000)(sm:∀b∈bs,xK b)(g1:ay aZ h h1)(TU:fC h1 h.aw (bx gs fs name params aB B ah) 0)(J:cm e 1 h.aw)(w:bH e 16=B.v)(a:bJ e 17 bs.length)(q:bJ e 18 0)(bad:∀c e' I,c≠0->bJ e' 2 c->ay aZ h I->QQ .ret e' I)(u4:∀e' I,cm e' 1 h.aw->ay aZ h I->I.tr.get h.aw=some (.bZ (bx gs fs name params aB B ah) false 0 0)->yY bs.length aB bs->QQ (.exit 0) e' I):aO FF (.loop jG) e h1 QQ:=by
 have dT:=aD.len hB;refine aO.loop (ar6 h gs fs B ah name params aB bs) ?_ (n:=bs.length) ⟨0,rfl,ab,J,w,a,q,g1,TU,fun b hb=>by simp at hb⟩;rintro m e h2⟨j,rfl,hj,J,w,a,q,H,O,U⟩;unfold jG;by_cases bk:j<bs.length
 .have Z:bs[j]?=some bs[j]:=g_ bk;have hm:=Be bk;generalize bs[j]=x at Z hm;obtain⟨bb,off,c,fp,_,_,⟨P,L,T,rfl,sP,sL,sT⟩,_,cZ⟩:=aD.later Y hB Z;have r0:=cZ h2 H 0 6 ag;simp[-ax] at r0;have wj:=cg (j+1) ab ab;have Q:=H.ok.cn O;have zD:=O;simp only[bx] at zD;have D:=w;simp at D;rw[fp,dT] at D;simp[J,D,a,q,bk,r0,-ax,aH,cH,bw,Q,aF zD];refine bm.cut (fun M=>ay aZ h2 M) ?_ ?_
  exact(ay.refl H.ok).var _ _;rintro M g3;have N:=H.trans g3;refine bm.call (V:=wM (fun c=>c=0->Py bs.length aB x) M) ?_ ?_
  .have E:bc FF 140 [.agg ⟨bx gs fs name params aB B ah⟩,.agg ⟨[.int .i64 x.kind,.bool x.on.1,.int .i64 x.on.2,T.v]⟩] M (wM (fun c=>c=0->Py bs.length aB x) M):=by rw[<-dT];exact abe N.ok (hw.grow Y N) hr ab (b:=x) (av ((sm x hm).to)) (sT.mono Y N fun _ _ h=>h)
   simpa [bx,dT] using E
  rintro _ h4⟨g4,c,rfl,hc⟩;have pT:=N.trans g4;by_cases he:c=0
  subst he;simp[q,wj];refine⟨bs.length-(j+1),ab,j+1,rfl,ab,au J,by simp[w],by simp[a],ae,pT,(g3.trans g4).get H.ok O,U.take Z (hc rfl)⟩;have:=uu he;simp[this];exact bad c _ _ he ae pT
 .have:j=bs.length:=ab
  subst this;rw[jT] at U;simp[a,q];exact u4 _ _ (au J) H O U
structure aaA(aB:Int)(vH:List (List Int))(i:Nat)(b:GB):Prop where
 bD:∀p∈b.bD,i≠0/\∃l,vH[i]?=some l/\Lq aB l.length p
 list:∀x∈b.list,vd aB x
def S9(aB:Int)(vH:List (List Int))(bs:List GB):Prop:=∀(i:Nat) b,bs[i]?=some b->aaA aB vH i b
def asy(h h1:az)(a:Env)(P:SV)(aB:Int)(n:Nat)(i:Nat)(ps:List GP)(C:Nat)(q:List Value)(sC:Nat)(m:Nat)(e:Env)(h2:az):Prop:=
 ∃j:Nat,m=ps.length-j/\j<=ps.length/\aM [47,48,49,9,50,51,52,53,10,54,55,56,57,46,2] a e/\bJ e 46 j/\ay aZ h1 h2/\∀p∈ps.take j,i≠0/\Lq aB n p
def Xp(ok:cr h)(hr:0<=aB/\aB<1000000){i:Nat}{l:List Int}(hi:mP[i]?=some l)(hA:aD (lsR h1) 1 h1 AH.v mP){P:SV}{ps:List GP}(hP:aD (pR h) 2 h P.v ps)(wg:ps.length<=140737488355328)(sm:∀p∈ps,p.row.length<=140737488355328)(H:ay aZ h h1)(TU:fC h1 C (bx gs fs name params aB B AH) sC)(f1:cm e 1 C)(f6:bJ e 6 i)(U:bH e 44=P.v)(O:bJ e 45 ps.length)(Z:bJ e 46 0)(bad:∀c e' D,c≠0->bJ e' 2 c->ay aZ h1 D->QQ .ret e' D)(u4:∀e' D,aM [47,48,49,9,50,51,52,53,10,54,55,56,57,46,2] e e'->ay aZ h1 D->(∀p∈ps,i≠0/\Lq aB l.length p)->QQ (.exit 4) e' D):aO FF (.loop jE) e h1 QQ:=by
 have gY:=aD.len hP;refine aO.loop (asy h h1 e P aB l.length i ps C (bx gs fs name params aB B AH) sC) ?_ (n:=ps.length) ⟨0,rfl,ab,aM.refl _ _,Z,.refl H.ok,fun p M=>by simp at M⟩;rintro m e' h2⟨j,rfl,hj,K,a,w,Q⟩;have jC:=H.trans w;unfold jE;have q1:=K.at f1;have q6:=K.at f6;have OE:=K.at U;have U3:=K.at O;by_cases bk:j<ps.length
 .have Y:ps[j]?=some ps[j]:=g_ bk;have hm:=Be bk;generalize ps[j]=x at Y hm;obtain⟨bb,off,c,kB,_,_,⟨W,rfl,sW⟩,_,cZ⟩:=aD.later ok hP Y;have r0:=cZ h2 jC 0 2 ag;simp[-ax] at r0;have wj:=cg (j+1) ab ab;have yQ:=w.get H.ok TU;have N:=w.ok.cn yQ;simp only[bx] at yQ;simp at OE;rw[kB,gY] at OE;simp[q1,q6,OE,U3,a,bk,r0,-ax,aH,cH,bw,N,aF yQ];refine bm.cut (fun I=>ay aZ h2 I) ?_ ?_
  exact(ay.refl w.ok).var _ _;rintro I g3;have ef:=jC.trans g3;have q:=w.trans g3;refine bm.call (V:=wM (fun c=>c=0->i≠0/\Lq aB l.length x) I) ?_ ?_
  .have E:bc FF 142 [.agg ⟨bx gs fs name params aB B AH⟩,.int .i64 i,.agg ⟨[.int .i64 x.dst,W.v]⟩] I (wM (fun c=>c=0->i≠0/\Lq aB l.length x) I):=
    ade ef.ok hr (hA.mono H.ok q fun _ _ r=>r.mono H.ok q) hi (av (sm x hm)) (sW.mono ok ef fun _ _ h=>h)
   simpa [bx] using E
  rintro _ h4⟨g4,c,rfl,hc⟩;have J:=q.trans g4;by_cases he:c=0
  .subst he;simp[a,wj];refine⟨ps.length-(j+1),ab,j+1,rfl,ab,?_,ae,J,?_⟩
   .exact aq
   intro p M;rw[lg,Y] at M;rcases jS.1 M with h|h;exact Q p h;simp at h;rw[h];exact hc rfl
  have:=uu he;simp[this];exact bad c _ _ he ae J
 .have:j=ps.length:=ab
  subst this;rw[jT] at Q;simp[U3,a];exact u4 _ _ (K.set) w Q
def ar_(h h1:az)(a:Env)(aB:Int)(xs:List GI)(m:Nat)(e:Env)(h2:az):Prop:=
 ∃j:Nat,m=xs.length-j/\j<=xs.length/\aM [62,63,64,12,65,66,67,13,68,69,70,71,61,2] a e/\bJ e 61 j/\ay aZ h1 h2/\∀x∈xs.take j,vd aB x
def Xn(N:cr h)(hr:0<=aB/\aB<1000000)(hF:aD (fR h) 4 h fs.v funcs)(lZ:funcs.length<1000000/\∀f∈funcs,f.params<=6){L:SV}{xs:List GI}(hL:aD (iR h) 8 h L.v xs)(xG:xs.length<=140737488355328)(sm:∀x∈xs,x.args.length<=140737488355328)(g1:ay aZ h h1)(TU:fC h1 C (bx gs fs name params aB B AH) sC)(f1:cm e 1 C)(O:bH e 59=L.v)(f60:bJ e 60 xs.length)(U:bJ e 61 0)(bad:∀c e' H,c≠0->bJ e' 2 c->ay aZ h1 H->QQ .ret e' H)(u4:∀e' H,aM [62,63,64,12,65,66,67,13,68,69,70,71,61,2] e e'->ay aZ h1 H->(∀x∈xs,vd aB x)->QQ (.exit 6) e' H):aO FF (.loop jD) e h1 QQ:=by
 have jt:=aD.len hL;refine aO.loop (ar_ h h1 e aB xs) ?_ (n:=xs.length) ⟨0,rfl,ab,aM.refl _ _,U,.refl g1.ok,fun p M=>by simp at M⟩;rintro m e' h2⟨j,rfl,hj,K,q,w,Z⟩;have jC:=g1.trans w;unfold jD;have q1:=K.at f1;have a:=K.at O;have D:=K.at f60;by_cases bk:j<xs.length
 .have hx:xs[j]?=some xs[j]:=g_ bk;have hm:=Be bk;generalize xs[j]=x at hx hm;obtain⟨bb,off,c,SM,_,_,⟨W,rfl,sW⟩,_,cZ⟩:=aD.later N hL hx;have r0:=cZ h2 jC 0 8 ag;simp[aJ,-ax] at r0;have wj:=cg (j+1) ab ab;have yQ:=w.get g1.ok TU;have Q:=w.ok.cn yQ;simp only[bx] at yQ;simp at a;rw[SM,jt] at a;simp[q1,a,D,q,bk,r0,-ax,aH,cH,bw,Q,aF yQ];refine bm.cut (fun h3=>ay aZ h2 h3) ?_ ?_
  exact(ay.refl w.ok).var _ _;rintro h3 g3;have J:=jC.trans g3;have Y:=w.trans g3;refine bm.call (V:=wM (fun c=>c=0->vd aB x) h3) ?_ ?_
  have E:=acu (gs:=gs) (fs:=fs) (name:=name) (params:=params) (aB:=aB) (blocks:=B) (ah:=AH) J.ok hr (hF.mono N J fun _ _ r=>r.mono N J) lZ (x:=x) (sW.mono N J fun _ _ h=>h) (av (sm x hm));simpa [bx,aJ] using E;rintro _ h4⟨g4,c,rfl,hc⟩;have I:=Y.trans g4;by_cases he:c=0
  .subst he;simp[q,wj];refine⟨xs.length-(j+1),ab,j+1,rfl,ab,?_,ae,I,?_⟩
   .exact aq
   intro p M;rw[lg,hx] at M;rcases jS.1 M with h|h;exact Z p h;simp at h;rw[h];exact hc rfl
  have:=uu he;simp[this];exact bad c _ _ he ae I
 .have:j=xs.length:=ab
  subst this;rw[jT] at Z;simp[D,q];exact u4 _ _ (K.set) w Z
end
section
variable{gs fs blocks ah:SV}{name:ByteArray}{params aB:Int}
def BlI(h h1:az)(C:Nat)(B:SV)(aB:Int)(bs:List GB)(mP:List (List Int))(m:Nat)(e:Env)(h2:az):Prop:=
 ∃j:Nat,m=bs.length-j/\j<=bs.length/\cm e 1 C/\bH e 36=B.v/\bJ e 37 bs.length/\bJ e 38 j/\ay aZ h1 h2/\S9 aB mP (bs.take j)
def PQ(O:cr h)(hr:0<=aB/\aB<1000000)(xG:mP.length=bs.length)(hA:aD (lsR h1) 1 h1 AH.v mP)(hF:aD (fR h) 4 h fs.v funcs)(lZ:funcs.length<1000000/\∀f∈funcs,f.params<=6)(hB:qg h B bs)(hl:bs.length<=1000)(sm:∀b∈bs,xK b)(N:ay aZ h h1)(TU:fC h1 C (bx gs fs name params aB B AH) sC)(f1:cm e 1 C)(H:bH e 36=B.v)(D:bJ e 37 bs.length)(w:bJ e 38 0)(bad:∀c e' J,c≠0->bJ e' 2 c->ay aZ h1 J->QQ .ret e' J)(u4:∀e' J,ay aZ h1 J->S9 aB mP bs->QQ (.exit 2) e' J):aO FF (.loop jF) e h1 QQ:=by
 have dT:=aD.len hB;refine aO.loop (BlI h h1 C B aB bs mP) ?_ (n:=bs.length) ⟨0,rfl,ab,f1,H,D,w,.refl N.ok,fun i b a=>by simp at a⟩;rintro m e h2⟨j,rfl,hj,f1,H,D,w,g2,hE⟩;have jC:=N.trans g2;unfold jF;by_cases bk:j<bs.length
 .have hx:bs[j]?=some bs[j]:=g_ bk;have hm:=Be bk;generalize bs[j]=x at hx hm;obtain⟨bb,off,c,fp,_,_,⟨P,L,T,rfl,sP,sL,sT⟩,_,cZ⟩:=aD.later O hB hx;have r0:=cZ h2 jC 0 6 ag;simp[-ax] at r0;have wj:=cg (j+1) ab ab;have gY:=aD.len sP;have jt:=aD.len sL;have M:=H;simp at M;rw[fp,dT] at M;obtain⟨l,gh⟩:=aV mP j;simp[M,D,w,bk,r0,-ax,aH,cH,bw];refine aO.cut (fun h3=>ay aZ h2 h3/\dg h3 h2.aw [P.v,L.v,.int .i64 x.kind,.bool x.on.1,.int .i64 x.on.2,T.v]) ?_ ?_
  exact⟨(ay.refl g2.ok).var _ _,h2.clock,ae⟩;rintro h3⟨g3,s3,SO⟩;have U:=jC.trans g3;have E:=g2.trans g3;refine Xp (C:=C) U.ok hr gh (hA.mono N.ok E fun _ _ r=>r.mono N.ok E) (sP.mono O U fun _ _ r=>r.mono O U) (sm x hm).ph (sm x hm).row (.refl U.ok) (E.get N.ok TU) (au f1) ae ae (au gY) ae ?_ ?_
  intro c e' J hc q g';simp[q];exact bad c _ _ hc q (E.trans g')
  .intro e4 h4 Z g4 Y;have I:=E.trans g4;have Q:=N.trans I;have q7:=Z.at (t:=7) (v:=.pointer (some ⟨h2.aw,0,none⟩)) ae;have q1:=Z.at (t:=1) (v:=.pointer (some ⟨C,0,none⟩)) (au f1);have q36:=Z.at (t:=36) (v:=B.v) (ak H);have q37:=Z.at (t:=37) (v:=.int .i64 bs.length) (by simp[D]);have Zf:=Z.at (t:=38) (v:=.int .i64 j) (by simp[w]);have XW:=g4.get U.ok SO;simp at XW;simp[q7,XW];refine Xn (C:=C) Q.ok hr (hF.mono O Q fun _ _ r=>r.mono O Q) lZ (sL.mono O Q fun _ _ r=>r.mono O Q) (sm x hm).li (sm x hm).args (.refl Q.ok) (I.get N.ok TU) (au q1) ae (au jt) ae ?_ ?_
   intro c e' J hc q g';simp[q];exact bad c _ _ hc q (I.trans g')
   .intro e5 h5 K5 g5 hli;have u1:=K5.at (t:=1) (v:=.pointer (some ⟨C,0,none⟩)) (au q1);have u36:=K5.at (t:=36) (v:=B.v) (by simp;simpa using q36);have u37:=K5.at (t:=37) (v:=.int .i64 bs.length) (au q37);have u38:=K5.at (t:=38) (v:=.int .i64 j) (au Zf);simp[u38,wj];refine⟨bs.length-(j+1),ab,j+1,rfl,ab,au u1,by simp;simpa using u36,au u37,ae,I.trans g5,?_⟩;intro i b a;rw[lg,hx] at a;by_cases hi:i<j
    rw[Iw (by simp;omega)] at a;exact hE i b a
    .rw[Ke (by simp;omega)] at a;have Wo:i=j:=by have:=(di.mp a).1;simp at this;omega
     subst Wo;simp at a;have:i-min i bs.length=0:=ab
     rw[this] at a;simp at a;subst a;exact⟨fun p hp=>⟨(Y p hp).1,l,gh,(Y p hp).2⟩,hli⟩
 .have:j=bs.length:=ab
  subst this;rw[jT] at hE;simp[D,w];exact u4 _ _ g2 hE
structure EE(aB:Int)(bs:List GB):Prop where
 ends:yY bs.length aB bs
 AF:S9 aB (Edge.dO (cw bs)) bs
def Xl(H:cr h)(hw:GR h)(hr:0<=aB/\aB<1000000)(hF:aD (fR h) 4 h fs.v funcs)(lZ:funcs.length<1000000/\∀f∈funcs,f.params<=6)(J:qg h B bs)(Q:bs.length<=1000)(sm:∀b∈bs,xK b):bc FF 82 [.agg ⟨bx gs fs name params aB B ah⟩] h (wM (fun c=>c=0->EE aB bs) h):=by
 have I:=aD.len J;refine bc.of AG ?_;unfold rM;simp[bx,I];refine aO.cut (fun h1=>ay aZ h h1/\h1.tr.get h.aw=some (.bZ (bx gs fs name params aB B ah) false 0 0)) ?_ ?_;exact⟨(ay.refl H).new _ _,by simp[bx,I]⟩;rintro h1⟨g1,TU⟩;refine Xm H hw hr J Q sm g1 TU ae (au I) ae ae ?_ ?_;intro c e' w hc q E;simp[q];exact⟨E,c,rfl,fun h=>absurd h hc⟩
 .intro e2 h2 N j Y hE;have zD:=Y;simp[bx] at zD;simp[N,zD];have A:=P6 j.ok (name:=name) (p:=params) (r:=aB) (J.mono H j) (hE.ends Q);refine bm.call (V:=fun v w=>ay aZ h2 w/\∃d ws,v=.slice (some ⟨d,0,none⟩) bs.length bs.length/\mz encI h2.aw w d ws (Edge.dO (cw bs))) (by simpa [aC] using A) ?_;rintro _ U⟨g3,d,ws,rfl,w3⟩;have M:=j.trans g3;have SJ:=g3.get j.ok Y;have a:=SJ;simp[bx] at a;simp[N,a];have xG:(Edge.dO (cw bs)).length=bs.length:=by rw[Edge.mA];simp[cw]
  have oC3:=(j.ok.cn Y).lt;refine aO.cut (fun D=>ay aZ h D/\aD (lsR D) 1 D (SV.v ⟨some ⟨d,0,none⟩,bs.length,bs.length⟩) (Edge.dO (cw bs))/\dg D h.aw (bx gs fs name params aB B ⟨some ⟨d,0,none⟩,bs.length,bs.length⟩)) ?_ ?_;have gp:ay (· =h.aw) U (put U h.aw 6 [.slice gs.a gs.l gs.c,.slice fs.a fs.l fs.c,.string name,.int .i64 params,.int .i64 aB,.slice B.a B.l B.c,.slice ah.a ah.l ah.c] [.slice (some ⟨d,0,none⟩) bs.length bs.length] 0):=aY M.ok a;refine⟨M.put ⟨_,a⟩ (.inl (fh _)),?_,U.clock,by simp[bx]⟩;have w4:=w3.grow M.ok gp (fun b hb e=>ab);have:=VU (c:=bs.length) w4;rw[xG] at this;simpa using this
  rintro D⟨O,TO,s4,Z⟩;refine PQ (AH:=⟨some ⟨d,0,none⟩,bs.length,bs.length⟩) H hr xG TO hF lZ J Q sm O Z (au N) ae (au I) ae ?_ ?_;intro c e' w hc q E;simp[q];exact⟨O.trans E,c,rfl,fun h=>absurd h hc⟩;intro e' w E hb;simp;exact⟨O.trans E,0,rfl,fun _=>⟨hE,hb⟩⟩
end
def ame(h:az)(s:ByteArray)(m:Nat)(e:Env)(h2:az):Prop:=∃j:Nat,m=s.size-j/\bH e 0=.string s/\bJ e 14 s.size/\bJ e 15 j/\h2=h/\j<=s.size
def My(h:az)(s:ByteArray):bc FF 78 [.string s] h (fun v h'=>h'=h/\∃b:Bool,v=.bool b):=by
 refine bc.of PR ?_;unfold FP;by_cases h1:s.size<1
 .have my:(s.size:Int)<1:=ab
  simp[my]
 have my:¬(s.size:Int)<1:=ab
 by_cases h2:12<s.size
 .have xZ:(12:Int)<s.size:=ab
  simp[my,xZ]
 have xZ:¬(12:Int)<s.size:=ab
 simp[my,xZ];refine aO.loop (ame h s) ?_ (n:=s.size)
  ⟨0,rfl,ae,ae,ae,rfl,ab⟩
 rintro m e h3⟨j,rfl,w,a,q,rfl,hj⟩;unfold BK;by_cases I:j<s.size
 .have wj:=cg (j+1) ab ab;obtain⟨c,O⟩:∃c:Int,((s[j]'I).toNat:Int)=c:=⟨_,rfl⟩;by_cases J:97<=c
  .by_cases H:c<=122
   .have k3:¬122<c:=ab
    have k4:¬c<97:=ab
    simp[w,a,q,I,O,J,H,k3,k4,wj];exact⟨s.size-(j+1),ab,j+1,rfl,au w,by simp[a],ae,rfl,ab⟩
   .have k3:122<c:=ab
    have k4:¬c<97:=ab
    by_cases N:65<=c
    .by_cases E:c<=90
     .have q3:¬90<c:=ab
      have q4:¬c<65:=ab
      simp[w,a,q,I,O,J,H,k3,k4,N,E,q3,q4,wj];exact⟨s.size-(j+1),ab,j+1,rfl,au w,by simp[a],ae,rfl,ab⟩
     .have q3:90<c:=ab
      have q4:¬c<65:=ab
      by_cases u1:c=95
      .have D:(c==95)=true:=aj u1
       simp[w,a,q,I,O,J,H,k3,k4,N,E,q3,q4,D,wj];exact⟨s.size-(j+1),ab,j+1,rfl,au w,by simp[a],ae,rfl,ab⟩
      .have D:(c==95)=false:=aj u1
       by_cases Z:0<j
       .have M:¬(j=0):=ab
        by_cases p1:48<=c
        .by_cases Q:c<=57
         .have U:¬57<c:=ab
          have Y:¬c<48:=ab
          simp[w,a,q,I,O,J,H,k3,k4,N,E,q3,q4,D,Z,M,p1,Q,U,Y,wj];exact⟨s.size-(j+1),ab,j+1,rfl,au w,by simp[a],ae,rfl,ab⟩
         .have U:57<c:=ab
          have Y:¬c<48:=ab
          simp[w,a,q,I,O,J,H,k3,k4,N,E,q3,q4,D,Z,M,p1,Q,U,Y]
        .have Q:c<48:=ab
         simp[w,a,q,I,O,J,H,k3,k4,N,E,q3,q4,D,Z,M,p1,Q]
       .have M:j=0:=ab
        subst M;simp[w,a,q,I,O,J,H,k3,k4,N,E,q3,q4,D]
    .have E:c<65:=ab
     by_cases u1:c=95
     .have D:(c==95)=true:=aj u1
      simp[w,a,q,I,O,J,H,k3,k4,N,E,D,wj];exact⟨s.size-(j+1),ab,j+1,rfl,au w,by simp[a],ae,rfl,ab⟩
     .have D:(c==95)=false:=aj u1
      by_cases Z:0<j
      .have M:¬(j=0):=ab
       by_cases p1:48<=c
       .by_cases Q:c<=57
        .have U:¬57<c:=ab
         have Y:¬c<48:=ab
         simp[w,a,q,I,O,J,H,k3,k4,N,E,D,Z,M,p1,Q,U,Y,wj];exact⟨s.size-(j+1),ab,j+1,rfl,au w,by simp[a],ae,rfl,ab⟩
        .have U:57<c:=ab
         have Y:¬c<48:=ab
         simp[w,a,q,I,O,J,H,k3,k4,N,E,D,Z,M,p1,Q,U,Y]
       .have Q:c<48:=ab
        simp[w,a,q,I,O,J,H,k3,k4,N,E,D,Z,M,p1,Q]
      .have M:j=0:=ab
       subst M;simp[w,a,q,I,O,J,H,k3,k4,N,E,D]
  .have H:c<97:=ab
   by_cases N:65<=c
   .by_cases E:c<=90
    .have q3:¬90<c:=ab
     have q4:¬c<65:=ab
     simp[w,a,q,I,O,J,H,N,E,q3,q4,wj];exact⟨s.size-(j+1),ab,j+1,rfl,au w,by simp[a],ae,rfl,ab⟩
    .have q3:90<c:=ab
     have q4:¬c<65:=ab
     by_cases u1:c=95
     .have D:(c==95)=true:=aj u1
      simp[w,a,q,I,O,J,H,N,E,q3,q4,D,wj];exact⟨s.size-(j+1),ab,j+1,rfl,au w,by simp[a],ae,rfl,ab⟩
     .have D:(c==95)=false:=aj u1
      by_cases Z:0<j
      .have M:¬(j=0):=ab
       by_cases p1:48<=c
       .by_cases Q:c<=57
        .have U:¬57<c:=ab
         have Y:¬c<48:=ab
         simp[w,a,q,I,O,J,H,N,E,q3,q4,D,Z,M,p1,Q,U,Y,wj];exact⟨s.size-(j+1),ab,j+1,rfl,au w,by simp[a],ae,rfl,ab⟩
        .have U:57<c:=ab
         have Y:¬c<48:=ab
         simp[w,a,q,I,O,J,H,N,E,q3,q4,D,Z,M,p1,Q,U,Y]
       .have Q:c<48:=ab
        simp[w,a,q,I,O,J,H,N,E,q3,q4,D,Z,M,p1,Q]
      .have M:j=0:=ab
       subst M;simp[w,a,q,I,O,J,H,N,E,q3,q4,D]
   .have E:c<65:=ab
    by_cases u1:c=95
    .have D:(c==95)=true:=aj u1
     simp[w,a,q,I,O,J,H,N,E,D,wj];exact⟨s.size-(j+1),ab,j+1,rfl,au w,by simp[a],ae,rfl,ab⟩
    .have D:(c==95)=false:=aj u1
     by_cases Z:0<j
     .have M:¬(j=0):=ab
      by_cases p1:48<=c
      .by_cases Q:c<=57
       .have U:¬57<c:=ab
        have Y:¬c<48:=ab
        simp[w,a,q,I,O,J,H,N,E,D,Z,M,p1,Q,U,Y,wj];exact⟨s.size-(j+1),ab,j+1,rfl,au w,by simp[a],ae,rfl,ab⟩
       .have U:57<c:=ab
        have Y:¬c<48:=ab
        simp[w,a,q,I,O,J,H,N,E,D,Z,M,p1,Q,U,Y]
      .have Q:c<48:=ab
       simp[w,a,q,I,O,J,H,N,E,D,Z,M,p1,Q]
     .have M:j=0:=ab
      subst M;simp[w,a,q,I,O,J,H,N,E,D]
 .have:j=s.size:=ab
  subst this;simp[a,q]
def encStr:Enc ByteArray:=⟨fun x=>[.string x],1,fun _=>rfl,ag,fun _=>rfl⟩
@[simp] def akM:encStr.sz=1:=rfl
@[simp] def aib(x:ByteArray):encStr.enc x=[.string x]:=rfl
def KY(s:bj encStr h v xs)(hl:xs.length<1000000)(x:ByteArray):bc FF 139 [v,.string x] h (fun v Q=>Q=h/\∃i:Int,v=.int .i64 i):=by
 obtain⟨a,I,rfl,_⟩:=id s;refine bc.of qZ ?_;unfold jq;simp;refine aO.loop (fun m e h2=>∃j:Nat,m=xs.length-j/\j<=xs.length/\bH e 0=.slice a xs.length I/\bH e 1=.string x/\bJ e 7 xs.length/\bJ e 8 j/\h2=h) ?_ (n:=xs.length)
  ⟨0,rfl,ab,ae,ae,ae,ae,rfl⟩
 rintro m e h2⟨j,rfl,hj,O,M,D,E,rfl⟩;unfold iK;by_cases J:j<xs.length
 .have N:xs[j]?=some xs[j]:=g_ J;generalize xs[j]=y at N;obtain⟨b,off,c,Y,_,_,U⟩:=s.read N;have H:=U 0 1 ag;cases Y;simp[-ax] at H;obtain⟨w,X6⟩:∃w,w=j+1:=⟨_,rfl⟩;have Z:IntKind.i64.wrap ((j:Int)+1)=(w:Int):=by rw[cg _ ab ab];omega
  cases q:(x==y) with
  |true=>simp[O,M,D,E,J,H,q,-ax]
  |false=>
   simp[O,M,D,E,J,H,q,Z,-ax];exact⟨xs.length-w,ab,w,rfl,ab,rfl⟩
 .have:j=xs.length:=ab
  subst this;simp[D,E]
def wS(s:bj encStr h v xs)(j:xs.length<1000000)(x:ByteArray):bc FF 79 [v,.string x] h (fun v q=>q=h/\∃b:Bool,v=.bool b):=by
 refine bc.of pa ?_;unfold iA;simp;refine bm.call (aj (KY s j x)) ?_;rintro _ h2⟨rfl,i,rfl⟩;by_cases h0:0<=i;simp[h0]
 .have a:i<0:=ab
  simp[h0,a]
structure BR(f:GF):Prop where
 params:0<=f.params/\f.params<=6
 aB:f.params<=f.aB/\f.aB<=100
 blocks:1<=f.blocks.length/\f.blocks.length<=40
 many:dp f.blocks<=300
section
variable{gs fs ah:SV}
def al9(h:az)(gs fs B ah:SV)(f:GF)(v:Value)(m:Nat)(e:Env)(h2:az):Prop:=
 ∃j:Nat,m=f.blocks.length-j/\j<=f.blocks.length/\bH e 1=v/\cm e 2 h.aw/\bJ e 5 (IntKind.i64.wrap (dp (f.blocks.take j):Int))/\bH e 10=B.v/\bJ e 11 f.blocks.length/\bJ e 12 j/\ay aZ h h2/\h2.tr.get h.aw=some (.bZ (bx gs fs f.name f.params f.aB B ah) false 0 0)
def X4(ok:cr h){f:GF}(hB:qg h B f.blocks)(hm:Fits f.blocks)(s:bj encStr h v xs)(hl:xs.length<1000000):bc FF 81 [.agg ⟨bx gs fs f.name f.params f.aB B ah⟩,v] h (wM (fun c=>c=0->BR f) h):=by
 have M:=aD.len hB;refine bc.of AJ ?_;unfold rN;simp[bx,M];refine aO.cut (fun h1=>ay aZ h h1/\h1.tr.get h.aw=some (.bZ (bx gs fs f.name f.params f.aB B ah) false 0 0)) ?_ ?_;exact⟨(ay.refl ok).new _ _,by simp[bx,M]⟩;rintro h1⟨g1,TU⟩;refine aO.loop (al9 h gs fs B ah f v) ?_ (n:=f.blocks.length) ⟨0,rfl,ab,ae,ae,by simp[dp,cg],au M,ae,ae,g1,TU⟩;rintro m e h2⟨j,rfl,hj,N,D,J,H,w,I,a,yQ⟩;unfold pB;by_cases bk:j<f.blocks.length
 .have O:f.blocks[j]?=some f.blocks[j]:=g_ bk;generalize f.blocks[j]=x at O;obtain⟨bb,off,c,fp,_,_,⟨P,L,T,rfl,sP,sL,sT⟩,_,cZ⟩:=aD.later ok hB O;have r0:=cZ h2 a 0 6 ag;simp[-ax] at r0;have gY:=aD.len sP;have jt:=aD.len sL;have hle:=ui O;have hf:=hm.2 x (cN O);have wa:=hm.1;have wj:=cg (j+1) ab ab;have w1:IntKind.i64.wrap ((x.bD.length:Int)+(x.list.length:Int))=(x.bD.length:Int)+(x.list.length:Int):=cg _ ab ab;have w2:IntKind.i64.wrap (IntKind.i64.wrap (dp (f.blocks.take j):Int)+((x.bD.length:Int)+(x.list.length:Int)))=IntKind.i64.wrap ((dp (f.blocks.take (j+1)):Nat):Int):=by rw[wrap_add,hle];congr 1
  have q:=H;simp at q;rw[fp,M] at q;simp[N,D,J,q,w,I,bk,r0,-ax,aH,gY,jt,w1,w2,wj];refine⟨f.blocks.length-(j+1),ab,j+1,rfl,ab,au N,au D,ae,by simp;simpa using H,by simp[w],ae,a.var _ _,?_⟩;have U:=a.ok.cn yQ;simpa [U] using yQ
 .have:j=f.blocks.length:=ab
  subst this;rw[jT] at J;have E:=yQ;simp[bx] at E;simp[w,I,D,E];refine bm.call (V:=fun v Z=>Z=h2/\∃b:Bool,v=.bool b) (aj (My h2 f.name)) ?_;rintro _ xZ⟨eh,b,rfl⟩;rw[eh];cases b with
  |false=>
   simp;exact⟨a,12,rfl,fun h=>by cases h⟩
  |true=>
   simp[N,D,E];refine bm.call (V:=fun v Z=>Z=h2/\∃b:Bool,v=.bool b) (by simpa [N] using wS (s.ck ok a) hl f.name) ?_;rintro _ h2''⟨eh',b,rfl⟩;rw[eh'];cases b with
   |true=>
    simp;exact⟨a,7,rfl,fun h=>by cases h⟩
   |false=>
    simp[D,E];refine bm.call (aj (fE h2 f.params 0 6)) ?_;rintro _ h3⟨rfl,eh3⟩;rw[eh3];by_cases hp:0<=f.params/\f.params<=6
    .have Q:(decide (0<=f.params)&&decide (f.params<=6))=true:=aj hp
     rw[Q];simp[D,E];refine bm.call (aj (fE h2 f.aB f.params 100)) ?_;rintro _ h4⟨rfl,Y⟩;rw[Y];by_cases hr:f.params<=f.aB/\f.aB<=100
     .have Gk:(decide (f.params<=f.aB)&&decide (f.aB<=100))=true:=aj hr
      rw[Gk];simp[D,E];refine bm.call (by simpa [M] using fE h2 (f.blocks.length:Int) 1 40) ?_;rintro _ h5⟨rfl,eh5⟩;rw[eh5];by_cases hb:(1:Int)<=f.blocks.length/\(f.blocks.length:Int)<=40
      .have Pp:(decide ((1:Int)<=f.blocks.length)&&decide ((f.blocks.length:Int)<=40))=true:=aj hb
       rw[Pp];rw[M7 hm ab] at J;by_cases X9:(300:Int)<dp f.blocks;simp[J,X9];exact⟨a,2,rfl,fun h=>by cases h⟩;simp[J,X9];exact⟨a,0,rfl,fun _=>⟨hp,hr,ab,ab⟩⟩
      .have Pp:(decide ((1:Int)<=f.blocks.length)&&decide ((f.blocks.length:Int)<=40))=false:=aj hb
       rw[Pp];simp;exact⟨a,2,rfl,fun h=>by cases h⟩
     .have Gk:(decide (f.params<=f.aB)&&decide (f.aB<=100))=false:=aj hr
      rw[Gk];simp;exact⟨a,3,rfl,fun h=>by cases h⟩
    .have Q:(decide (0<=f.params)&&decide (f.params<=6))=false:=aj hp
     rw[Q];simp;exact⟨a,3,rfl,fun h=>by cases h⟩
end
def XM(ok:cr h){X sX:Nat}{g:GG}{I:SV}(a:fC h X [.string g.name,.int .i64 g.size,I.v] sX)(hI:I.l=g.init.length)(gh:g.init.length<=140737488355328)(s:bj encStr h v xs)(hl:xs.length<1000000){W:Int}(hW:0<=W/\W<=200)(U:bH e 3=v)(Q:bJ e 4 W)(j:cm e 6 X)(Y:bJ e 7 0)(H:∀c e',aM [37,38,39,40,36,7,42,43,44,45,41,47,48,49,50,46,52,53,54,55,56,57,51,59,60,61,62,63,58] e e'->bJ e' 7 c->(c=0->1<=g.size/\(g.size<=200/\(g.init.length:Int)<=g.size)/\W+g.size<=200)->QQ .normal e' h):aO FF Iv e h QQ:=by
 unfold Iv;simp at a;simp[j,a];refine bm.call (V:=fun v E=>E=h/\∃b:Bool,v=.bool b) (aj (My h g.name)) ?_;rintro _ h2⟨Z,b,rfl⟩;rw[Z];cases b with
 |false=>
  simp;exact H 12 _ (by(repeat refine aM.set ?_);exact aM.refl _ _) ae (fun h=>by cases h)
 |true=>
  simp[U,j,a];refine bm.call (V:=fun v E=>E=h/\∃b:Bool,v=.bool b) (by simpa [U] using wS s hl g.name) ?_;rintro _ h3⟨J,b,rfl⟩;rw[J];cases b with
  |true=>
   simp;exact H 7 _ (by(repeat refine aM.set ?_);exact aM.refl _ _) ae (fun h=>by cases h)
  |false=>
   simp[j,a];refine bm.call (aj (fE h g.size 1 200)) ?_;rintro _ h4⟨rfl,D⟩;rw[D];by_cases q:1<=g.size/\g.size<=200
   .have w:(decide (1<=g.size)&&decide (g.size<=200))=true:=aj q
    rw[w];by_cases M:g.size<(I.l:Int)
    .simp[j,a,M];exact H 9 _ (by(repeat refine aM.set ?_);exact aM.refl _ _) ae (fun h=>by cases h)
    .have N:=cg (W+g.size) ab ab;by_cases O:200<W+g.size
     .simp[Q,j,a,M,N,O];exact H 10 _ (by(repeat refine aM.set ?_);exact aM.refl _ _) ae (fun h=>by cases h)
     .simp[Q,j,a,M,N,O];exact H 0 _ (by(repeat refine aM.set ?_);exact aM.refl _ _) (au Y) (fun _=>⟨q.1,⟨q.2,ab⟩,ab⟩)
   .have w:(decide (1<=g.size)&&decide (g.size<=200))=false:=aj q
    rw[w];simp;exact H 3 _ (by(repeat refine aM.set ?_);exact aM.refl _ _) ae (fun h=>by cases h)
structure Ta(h h2:az)(G F:SV)(e:Env)(v:Value)(names:List ByteArray):Prop where
 f1:cm e 1 h.aw
 f2:cm e 2 (h.aw+1)
 f3:bH e 3=v
 g:ay aZ h h2
 U:fC h2 h.aw [G.v,F.v] 0
 R:dg h2 (h.aw+1) [.int .i64 0,.int .i64 0]
 names:bu encStr (h.aw+2) h2 v names
def Ta.grow{h h2 a:az}{G F:SV}{e e':Env}{v:Value}{names:List ByteArray}(c:Ta h h2 G F e v names)(g:ay aZ h2 a)(j:bH e' 1=bH e 1)(q:bH e' 2=bH e 2)(w:bH e' 3=bH e 3):Ta h a G F e' v names:=by obtain⟨s,D⟩:=c.R;exact⟨j.trans c.f1,q.trans c.f2,w.trans c.f3,c.g.trans g,g.get c.g.ok c.U,⟨s,g.get c.g.ok D⟩,c.names.grow c.g.ok g ai⟩
def aeB(h:az)(Q:bK->Env->az->Prop):Prop:=∀(c a:Int)(e':Env)(j:az),c≠0->ay aZ h j->(dg j (h.aw+1) [.int .i64 c,.int .i64 a])->cm e' 2 (h.aw+1)->Q .ret e' j
def Ly(c:Ta h h2 G F e v names)(U:names.length<1000000)(x:ByteArray):∃j a,fS (aK h2 [.string x] 0) [.string ⟨⟨[]⟩⟩] 16 false v (.slice (some ⟨h2.aw,0,none⟩) 1 1)=some (j,a)/\ay (bt v) h2 a/\∀e',bH e' 1=bH e 1->bH e' 2=bH e 2->bH e' 3=j->Ta h a G F e' j (names++[x]):=by
 have w:=aN c.g.ok (encStr.enc x) 0;have Z:=c.names.grow c.g.ok w ai;have D:bj encStr (aK h2 (encStr.enc x) 0) (.slice (some ⟨h2.aw,0,none⟩) 1 1) [x]:=⟨_,_,rfl,.inr ⟨h2.aw,0,_,_,_,_,rfl,bz _ _ _,ae,ae⟩⟩;obtain⟨s,H⟩:=c.R;have gX:=c.g.ok.wf _ _ H;obtain⟨j,a,Y,O,N,ID⟩:=fx (bytes:=16) w.ok (z:=[.string ⟨⟨[]⟩⟩]) rfl Z D U ag (by show h.aw+2<=h2.aw+1;omega);have E:∀b,bt v b->h.aw+2<=b:=fun b I=>c.names.of I;have q:ay (bt v) h2 a:=w.ck.trans N;have go:ay aZ h a:=c.g.trans' q ai (fun b I e=>av (E b e));refine⟨j,a,Y,q,fun e' J M Q=>⟨J.trans c.f1,M.trans c.f2,Q,go,q.get c.g.ok c.U (fun e=>av (E _ e)),⟨s,q.get c.g.ok H (fun e=>av (E _ e))⟩,O⟩⟩
def adL(c:Ta h h2 G F e v names)(bad:aeB h QQ){w:Int}(M:w≠0)(a:Int){j:az}(E:ay aZ h2 j)(H:bH e' 2=bH e 2):(dg j (h.aw+1) [.int .i64 0,.int .i64 0])/\∀q,q=put j (h.aw+1) 0 [.int .i64 0,.int .i64 0] [.int .i64 w,.int .i64 a] 0->QQ .ret e' q:=by
 obtain⟨s,J⟩:=c.R;have D:=E.get c.g.ok J;refine⟨⟨s,D⟩,fun q I=>?_⟩;subst I;refine bad w a e' _ M ((c.g.trans E).put ⟨s,D⟩ (.inl ab)) ⟨j.clock,ae⟩ (H.trans c.f2)
def GlI(h:az)(G F:SV)(a:List GG)(m:Nat)(e:Env)(h2:az):Prop:=
 ∃(j:Nat) (v:Value) (W:Int),m=a.length-j/\j<=a.length/\Ta h h2 G F e v ((a.take j).map (·.name))/\bJ e 4 W/\0<=W/\W<=200/\bH e 29=G.v/\bJ e 30 a.length/\bJ e 31 j/\∀g∈a.take j,1<=g.size/\g.size<=200/\(g.init.length:Int)<=g.size
def KF(ok:cr h){a:List GG}(hG:aD (gR h) 3 h G.v a)(hl:a.length<=10)(sm:∀g∈a,g.init.length<=140737488355328)(c:Ta h h1 G F e (.slice none 0 0) [])(Q:bJ e 4 0)(D:bH e 29=G.v)(w:bJ e 30 a.length)(q:bJ e 31 0)(bad:aeB h QQ)(u4:∀e' h' v,Ta h h' G F e' v (a.map (·.name))->(∀g∈a,1<=g.size/\g.size<=200/\(g.init.length:Int)<=g.size)->QQ (.exit 0) e' h'):aO FF (.loop uB) e h1 QQ:=by
 have Wj:=aD.len hG;refine aO.loop (GlI h G F a) ?_ (n:=a.length) ⟨0,_,0,rfl,ab,aj c,Q,ab,ab,D,w,q,fun g M=>by simp at M⟩;rintro m e h2⟨j,v,W,rfl,hj,c,Q,hW0,Y,D,w,q,hs⟩;unfold uB;by_cases bk:j<a.length
 .have O:a[j]?=some a[j]:=g_ bk;have hm:=Be bk;generalize a[j]=x at O hm;obtain⟨bb,off,cc,hGa,_,_,⟨I,rfl,sI⟩,_,cZ⟩:=aD.later ok hG O;have r0:=cZ h2 c.g 0 3 ag;simp[-ax] at r0;have wj:=cg (j+1) ab ab;have E:=D;simp at E;rw[hGa,Wj] at E;have KT:((a.take j).map (·.name)).length<1000000:=by simp;omega
  simp[E,w,q,bk,r0,-ax];refine aO.cut (fun N=>ay aZ h2 N/\dg N h2.aw [.string x.name,.int .i64 x.size,I.v]) ?_ ?_;exact⟨(ay.refl c.g.ok).var _ _,h2.clock,ae⟩;rintro N⟨U,s3,H⟩;have ef:=c.g.trans U;have Hk:=c.names.grow c.g.ok U ai;refine XM ef.ok H (aD.len sI) (sm x hm) Hk.sl KT ⟨hW0,Y⟩ (by simp[c.f3]) (au Q) ae ae ?_;intro J e4 K q7 hcd;have k1:=K.at (t:=1) (v:=bH e 1) ae;have k2:=K.at (t:=2) (v:=bH e 2) ae;have k3:=K.at (t:=3) (v:=bH e 3) ae;have k4:=K.at (t:=4) (v:=bH e 4) ae;have k5:=K.at (t:=5) (v:=.int .i64 j) ae;have k6:=K.at (t:=6) (v:=.pointer (some ⟨h2.aw,0,none⟩)) ae;have Z:=K.at (t:=29) (v:=bH e 29) (by simp[E,D]);have k30:=K.at (t:=30) (v:=bH e 30) ae;have k31:=K.at (t:=31) (v:=bH e 31) ae;have c3:=c.grow (e':=e4) U k1 k2 k3;unfold abv;by_cases he:J=0
  .subst he;obtain⟨w1,w2,w3⟩:=hcd rfl;simp at H;have ww:=cg (W+x.size) ab ab;simp[q7,k3,c.f3,k6,H];obtain⟨v',h5,ha,ex,mk⟩:=Ly c3 KT x.name;refine cR ha ?_;have lt3:=(U.ok.cn H).lt;have oJ:fC h5 h2.aw [.string x.name,.int .i64 x.size,.slice I.a I.l I.c] s3:=by refine ex.get c3.g.ok H (fun e=>?_);obtain⟨o,n,cp,e⟩:=e;rcases c.names with⟨_,e2⟩|⟨b2,s2,e2,pz,_⟩;rw[e2] at e;cases e;rw[e2] at e;cases e;have:=c.g.ok.wf _ _ pz;omega
   simp[k4,Q,k6,oJ,ww,k31,q,wj];refine⟨a.length-(j+1),ab,j+1,v',W+x.size,rfl,ab,?_,ae,ab,ab,by simp[Z,D],by simp[k30,w],ae,?_⟩
   .have e1:(a.take (j+1)).map (·.name)=(a.take j).map (·.name)++[x.name]:=by rw[lg,O];simp
    rw[e1];exact mk _ ae ae ae
   intro g M;rw[lg,O] at M;rcases jS.1 M with h|h;exact hs g h;simp at h;rw[h];exact⟨w1,w2⟩
  have eQ:=uu he;simp[q7,eQ,k5];refine bm.call (aj (j4 N ef.ok J (j:Int))) ?_;rintro _ h4⟨rfl,g4⟩;obtain⟨⟨s4,KP⟩,tb⟩:=adL (QQ:=QQ) c3 bad he (j:Int) g4 (e':=Tr.set (Tr.set (Tr.set (Tr.set (Tr.set e4 64 (.int .i64 J)) 65 (.bool true)) 66 (.int .i64 J)) 67 (.int .i64 j)) 68 (.agg #[.int .i64 J,.int .i64 j])) ae;simp[k2,c.f2,KP];exact tb _ rfl
 .have:j=a.length:=ab
  subst this;rw[jT] at c hs;simp[w,q];exact u4 _ _ v (c.grow (.refl c.g.ok) ae ae ae) hs
def HdI(h:az)(G F:SV)(fl:List GF)(ns:List ByteArray)(m:Nat)(e:Env)(h2:az):Prop:=
 ∃(j:Nat) (v:Value),m=fl.length-j/\j<=fl.length/\Ta h h2 G F e v (ns++(fl.take j).map (·.name))/\bH e 80=F.v/\bJ e 81 fl.length/\bJ e 82 j/\∀f∈fl.take j,BR f
def Qe(Z:cr h)(hF:aD (fR h) 4 h F.v fl)(hl:fl.length<=10)(sm:∀f∈fl,Fits f.blocks)(hns:ns.length<=10){v0:Value}(c:Ta h h1 G F e v0 ns)(w:bH e 80=F.v)(a:bJ e 81 fl.length)(q:bJ e 82 0)(bad:aeB h QQ)(u4:∀e' h' v,Ta h h' G F e' v (ns++fl.map (·.name))->(∀f∈fl,BR f)->QQ (.exit 3) e' h'):aO FF (.loop uA) e h1 QQ:=by
 have wJ:=aD.len hF;refine aO.loop (HdI h G F fl ns) ?_ (n:=fl.length) ⟨0,_,rfl,ab,aj c,w,a,q,fun g J=>by simp at J⟩;rintro m e h2⟨j,v,rfl,hj,c,w,a,q,hs⟩;unfold uA;by_cases bk:j<fl.length
 .have N:fl[j]?=some fl[j]:=g_ bk;have hm:=Be bk;generalize fl[j]=x at N hm;obtain⟨bb,off,cc,CZ,_,_,⟨B,rfl,sB⟩,_,cZ⟩:=aD.later Z hF N;have r0:=cZ h2 c.g 0 4 ag;simp[-ax] at r0;have wj:=cg (j+1) ab ab;have H:=w;simp at H;rw[CZ,wJ] at H;have KT:(ns++(fl.take j).map (·.name)).length<1000000:=by simp;omega
  have Q:=c.U;simp at Q;have oU:=c.g.ok.cn Q;simp[H,a,q,c.f1,bk,r0,-ax,aH,cH,bw,oU,aF Q];refine bm.cut (fun M=>ay aZ h2 M/\dg M h2.aw [.string x.name,.int .i64 x.params,.int .i64 x.aB,B.v]) ?_ ?_
  exact⟨((ay.refl c.g.ok).var _ _).trans (((ay.refl ((ay.refl (S:=aZ) c.g.ok).var _ _).ok)).var _ _),h2.clock,ae⟩;rintro M⟨O,s3,eD⟩;have I:=c.g.trans O;have Hk:=c.names.grow c.g.ok O ai;refine bm.call (V:=wM (fun c=>c=0->BR x) M) ?_ ?_
  have E:=X4 (gs:=G) (fs:=F) (ah:=cK) I.ok (f:=x) (sB.mono Z I fun _ _ r=>r.mono Z I) (sm x hm) Hk.sl KT;simpa [bx,cK,c.f3,CZ,wJ] using E;rintro _ h4⟨U,Y,rfl,hcd⟩;have D:=O.trans U;have kR:=U.get I.ok eD;simp at kR;have lt2:=(O.ok.cn eD).lt;by_cases he:Y=0
  .subst he;have c4:=c.grow (e':=e) D rfl rfl rfl;obtain⟨v',h5,ha,ex,mk⟩:=Ly c4 KT x.name;simp[c.f3,kR];refine cR ha ?_;simp[q,wj];refine⟨fl.length-(j+1),ab,j+1,v',rfl,ab,?_,ak w,by simp[a],ae,?_⟩
   .have e1:ns++(fl.take (j+1)).map (·.name)=ns++(fl.take j).map (·.name)++[x.name]:=by rw[lg,N];simp
    rw[e1];exact mk _ ae ae ae
   intro g J;rw[lg,N] at J;rcases jS.1 J with h|h;exact hs g h;simp at h;rw[h];exact hcd rfl
  have eQ:=uu he;simp[eQ];refine bm.call (aj (j4 h4 (I.trans U).ok Y (j:Int))) ?_;rintro _ h5⟨rfl,g5⟩;obtain⟨s,hR⟩:=c.R;have Ak:=(D.trans g5).get c.g.ok hR;simp[c.f2,Ak];exact bad Y j _ _ he (((c.g.trans D).trans g5).put ⟨s,Ak⟩ (.inl ab)) ⟨h5.clock,ae⟩ (by simp[c.f2])
 .have:j=fl.length:=ab
  subst this;rw[jT] at c hs;simp[a,q];exact u4 _ _ v (c.grow (.refl c.g.ok) ae ae ae) hs
def BdI(h:az)(G F:SV)(fl:List GF)(v:Value)(ns:List ByteArray)(m:Nat)(e:Env)(h2:az):Prop:=
 ∃j:Nat,m=fl.length-j/\j<=fl.length/\Ta h h2 G F e v ns/\bH e 105=F.v/\bJ e 106 fl.length/\bJ e 107 j/\∀f∈fl.take j,EE f.aB f.blocks
def NC(J:cr h)(hw:GR h)(O:aD (fR h) 4 h F.v fl)(hl:fl.length<=10)(sm:∀f∈fl,∀b∈f.blocks,xK b)(hd:∀f∈fl,BR f)(c:Ta h h1 G F e v ns)(w:bH e 105=F.v)(q:bJ e 106 fl.length)(a:bJ e 107 0)(bad:aeB h QQ)(u4:∀e' h',Ta h h' G F e' v ns->(∀f∈fl,EE f.aB f.blocks)->QQ (.exit 5) e' h'):aO FF (.loop uz) e h1 QQ:=by
 have wJ:=aD.len O;refine aO.loop (BdI h G F fl v ns) ?_ (n:=fl.length) ⟨0,rfl,ab,c,w,q,a,fun g M=>by simp at M⟩;rintro m e h2⟨j,rfl,hj,c,w,q,a,Y⟩;unfold uz;by_cases bk:j<fl.length
 .have Z:fl[j]?=some fl[j]:=g_ bk;have hm:=Be bk;generalize fl[j]=x at Z hm;obtain⟨bb,off,cc,CZ,_,_,⟨B,rfl,sB⟩,_,cZ⟩:=aD.later J O Z;have r0:=cZ h2 c.g 0 4 ag;simp[-ax] at r0;have wj:=cg (j+1) ab ab;have H:=w;simp at H;rw[CZ,wJ] at H;have N:=c.U;simp at N;have oU:=c.g.ok.cn N;obtain⟨hp,hr,hb,_⟩:=hd x hm;simp[H,q,a,c.f1,bk,r0,-ax,aH,cH,bw,oU,aF N];refine bm.cut (fun U=>ay aZ h2 U) ?_ ?_
  exact((ay.refl c.g.ok).var _ _).trans (((ay.refl ((ay.refl (S:=aZ) c.g.ok).var _ _).ok)).var _ _);rintro U g3;have D:=c.g.trans g3;refine bm.call (V:=wM (fun c=>c=0->EE x.aB x.blocks) U) ?_ ?_
  have E:=Xl (gs:=G) (fs:=F) (name:=x.name) (params:=x.params) (aB:=x.aB) (ah:=cK) D.ok (hw.grow J D) ab (O.mono J D fun _ _ r=>r.mono J D) ⟨ab,fun f hf=>(hd f hf).params.2⟩ (sB.mono J D fun _ _ r=>r.mono J D) ab (sm x hm);simpa [bx,cK,CZ,wJ] using E;rintro _ h4⟨g4,Q,rfl,hcd⟩;have I:=g3.trans g4;by_cases he:Q=0
  subst he;simp[a,wj];refine⟨fl.length-(j+1),ab,j+1,rfl,ab,c.grow I ae ae ae,ak w,by simp[q],ae,?_⟩;intro g M;rw[lg,Z] at M;rcases jS.1 M with h|h;exact Y g h;simp at h;rw[h];exact hcd rfl;have eQ:=uu he;simp[eQ];refine bm.call (aj (j4 h4 (D.trans g4).ok Q (j:Int))) ?_;rintro _ h5⟨rfl,g5⟩;obtain⟨s,hR⟩:=c.R;have Ak:=(I.trans g5).get c.g.ok hR;simp[c.f2,Ak];exact bad Q j _ _ he (((c.g.trans I).trans g5).put ⟨s,Ak⟩ (.inl ab)) ⟨h5.clock,ae⟩ (by simp[c.f2])
 .have:j=fl.length:=ab
  subst this;rw[jT] at Y;simp[q,a];exact u4 _ _ (c.grow (.refl c.g.ok) ae ae ae) Y
def RZ:ByteArray:=⟨⟨[109,97,105,110]⟩⟩
def QW(h:az)(j:cr h)(name:ByteArray)(a b:Int)(s:SV):bc FF 84 [.agg ⟨[.string name,.int .i64 a,.int .i64 b,s.v]⟩] h (fun v q=>v=.bool (name==RZ)/\ay aZ h q):=by refine bc.of HY ?_;unfold ze;simp[RZ];exact(ay.refl j).new _ _
def IN(Y:cr h)(Q:aD (fR h) 4 h F.v fl)(hl:fl.length<1000000):bc FF 83 [F.v,.func (.func 84) #[] #[]] h (fun v w=>ay aZ h w/\∃i:Int,v=.int .i64 i/\(i= -1\/∃j:Nat,i=j/\j<fl.length)):=by
 have J:=aD.len Q;refine bc.of kZ ?_;unfold gq;simp;refine aO.loop (fun m e h2=>∃j:Nat,m=fl.length-j/\j<=fl.length/\bH e 0=F.v/\bH e 1=.func (.func 84) #[] #[]/\bJ e 7 fl.length/\bJ e 8 j/\ay aZ h h2) ?_ (n:=fl.length)
  ⟨0,rfl,ab,ae,ae,au J,ae,.refl Y⟩
 rintro m e h2⟨j,rfl,hj,N,H,E,D,q⟩;unfold fY;by_cases M:j<fl.length
 .have Z:fl[j]?=some fl[j]:=g_ M;generalize fl[j]=x at Z;obtain⟨bb,off,cc,U,_,_,⟨B,rfl,sB⟩,_,cZ⟩:=aD.later Y Q Z;have O:=cZ h2 q 0 4 ag;simp[-ax] at O;have wj:=cg (j+1) ab ab;have a:=N;simp at a;rw[U,J] at a;simp[a,H,E,D,M,O,-ax];refine bm.e_ (V:=fun v w=>v=.bool (x.name==RZ)/\ay aZ h2 w) ?_ ?_
  have I:dU FF (.func (.func 84) #[] #[]) [.agg ⟨[.string x.name,.int .i64 x.params,.int .i64 x.aB,B.v]⟩] h2 (fun v w=>v=.bool (x.name==RZ)/\ay aZ h2 w):=dU.func (aj (QW h2 q.ok x.name x.params x.aB B));simpa [H] using I;rintro _ h3⟨rfl,g3⟩;cases hmn:(x.name==RZ) with
  |true=>
   simp;exact⟨q.trans g3,j,rfl,M⟩
  |false=>
   simp[D,wj];exact⟨fl.length-(j+1),ab,j+1,rfl,ab,by simpa [U,J] using N,au H,au E,ae,q.trans g3⟩
 .have:j=fl.length:=ab
  subst this;simp[E,D];exact q
structure HH(u:GU):Prop where
 gn:u.globals.length<=10
 fn:u.funcs.length<=10
 gs:∀g∈u.globals,1<=g.size/\g.size<=200/\(g.init.length:Int)<=g.size
 head:∀f∈u.funcs,BR f
 body:∀f∈u.funcs,EE f.aB f.blocks
 one:0<u.funcs.length
structure EG(u:GU):Prop where
 init:∀g∈u.globals,g.init.length<=140737488355328
 fs:∀f∈u.funcs,Fits f.blocks
 bs:∀f∈u.funcs,∀b∈f.blocks,xK b
def xJ(P:Prop)(h:az)(v:Value)(h':az):Prop:=ay aZ h h'/\∃c a:Int,v=.agg ⟨[.int .i64 c,.int .i64 a]⟩/\(c≠0\/(c=0/\a=0/\P))
def Ts(N:cr h)(hw:GR h){u:GU}(O:uR h G F u)(sm:EG u):bc FF 34 [.agg ⟨[G.v,F.v]⟩] h (xJ (HH u) h):=by
 have Wj:=aD.len O.1;have wJ:=aD.len O.2;refine bc.of Nn ?_;unfold Dg;simp;have I:∀(c a:Int)(e':Env)(q:az),c≠0->ay aZ h q->(dg q (h.aw+1) [.int .i64 c,.int .i64 a])->cm e' 2 (h.aw+1)->C9 [.cell 2 (some 2)] (xJ (HH u) h) .ret e' q:=by intro c a e' q U g ⟨s,D⟩ E;simp[E,D];exact⟨g,c,a,rfl,.inl U⟩
 refine bm.cut (fun h1=>ay aZ h h1/\h1.tr.get h.aw=some (.bZ [G.v,F.v] false 0 0)/\h1.tr.get (h.aw+1)=some (.bZ [.int .i64 0,.int .i64 0] false 0 0)) ?_ ?_;exact⟨((ay.refl N).new _ _).new _ _,ae,ae⟩;rintro h1⟨g1,hU1,Bg⟩;have J:=hU1;simp at J;have H:∀e l R,cm e 2 (h.aw+1)->(∀e' q,cm e' 2 (h.aw+1)->ay aZ h q->(dg q (h.aw+1) [.int .i64 0,.int .i64 0])->bH e' 27=.agg #[.int .i64 2,.int .i64 0]->bm FF l e' q R)->bm FF (⟨(some 27),none,(.call (.func 36) [(.const (.int .i64 2)),(.const (.int .i64 0))])⟩::l) e h1 R:=by intro e l R E K;refine bm.call (aj (j4 h1 g1.ok 2 0)) ?_;rintro _ h2⟨rfl,g2⟩;exact K _ _ (au E) (g1.trans g2) ⟨_,g2.get g1.ok Bg⟩ ae
 by_cases hg:(10:Int)<G.l;simp[hg];refine H _ _ _ ae ?_;intro e' q E g' ⟨s,D⟩ ML;simp[E,ML,D];exact⟨g'.put ⟨s,D⟩ (.inl ab),2,0,rfl,.inl ag⟩;by_cases hf:(10:Int)<F.l;simp[hg,hf,J];refine H _ _ _ ae ?_;intro e' q E g' ⟨s,D⟩ ML;simp[E,ML,D];exact⟨g'.put ⟨s,D⟩ (.inl ab),2,0,rfl,.inl ag⟩;simp[hg,hf,J];have am2:u.globals.length<=10:=ab
 have Q:u.funcs.length<=10:=ab
 refine KF (F:=F) N O.1 am2 sm.init ⟨ae,ae,ae,g1,hU1,⟨0,Bg⟩,.inl ⟨rfl,rfl⟩⟩ ae ae (au Wj) ae ?_ ?_;intro c a e' q U g D E;simpa using I c a e' q U g D E;intro e2 h2 v2 c2 hgs;have EZ:=c2.U;simp at EZ;simp[c2.f1,EZ];refine Qe N O.2 Q sm.fs (by simp;omega) (c2.grow (.refl c2.g.ok) ae ae ae) ae (au wJ) ae ?_ ?_
 intro c a e' q U g D E;simpa using I c a e' q U g D E;intro e3 h3 v3 c3 hhd;have Hm:=c3.U;simp at Hm;simp[c3.f1,Hm];refine NC N hw O.2 Q sm.bs hhd (c3.grow (.refl c3.g.ok) ae ae ae) ae (au wJ) ae ?_ ?_
 intro c a e' q U g D E;simpa using I c a e' q U g D E;intro e4 h4 Y hbd;have XU:=Y.U;simp at XU;simp[Y.f1,XU];refine bm.call (V:=fun v q=>ay aZ h4 q/\∃i:Int,v=.int .i64 i/\(i= -1\/∃j:Nat,i=j/\j<u.funcs.length)) (aj (IN Y.g.ok (O.2.mono N Y.g fun _ _ r=>r.mono N Y.g) ab)) ?_;rintro _ h5⟨g5,i,rfl,hi⟩;have w:=Y.grow (e':=e4) g5 rfl rfl rfl;have M:=w.U;simp at M;obtain⟨s5,Ak⟩:=w.R;rcases hi with rfl|⟨j,rfl,hj⟩
 simp;refine bm.call (aj (j4 h5 w.g.ok 6 0)) ?_;rintro _ h6⟨rfl,Z⟩;have Ex:=Z.get w.g.ok Ak;simp[w.f2,Ex];exact⟨(w.g.trans Z).put ⟨_,Ex⟩ (.inl ab),6,0,rfl,.inl ag⟩
 .have hx:u.funcs[j]?=some u.funcs[j]:=g_ hj;generalize u.funcs[j]=x at hx;obtain⟨bb,off,cc,CZ,_,_,⟨B,rfl,sB⟩,_,cZ⟩:=aD.later N O.2 hx;have r0:=cZ h5 w.g 1 1 ag;simp[-ax] at r0;have hjn:¬(j:Int)<0:=ab
  by_cases hp:0<x.params;simp[w.f1,aF M,CZ,wJ,hj,r0,hp,hjn,-ax];refine bm.call (aj (j4 h5 w.g.ok 5 (j:Int))) ?_;rintro _ h6⟨rfl,Z⟩;have Ex:=Z.get w.g.ok Ak;simp[w.f2,Ex];exact⟨(w.g.trans Z).put ⟨_,Ex⟩ (.inl ab),5,j,rfl,.inl ag⟩
  simp[w.f1,w.f2,aF M,CZ,wJ,hj,r0,hp,hjn,-ax,Ak,aH];exact⟨w.g.put ⟨_,Ak⟩ (.inl ab),0,0,rfl,.inr ⟨rfl,rfl,am2,Q,hgs,hhd,hbd,ab⟩⟩
def wrap_u64(n:Int)(h:0<=n)(h':n<18446744073709551616):IntKind.u64.wrap n=n:=by simp only[IntKind.wrap,IntKind.signed,IntKind.bits];simp;omega
def UK(n:Nat)(h:n<4294967296):(BitVec.ofInt 64 (n:Int) &&& BitVec.ofInt 64 4294967295).toNat=n:=by
 have j:(BitVec.ofInt 64 (n:Int)).toNat=n:=by rw[BitVec.toNat_ofInt];omega
 have a:(BitVec.ofInt 64 4294967295).toNat=2^32-1:=ag
 rw[BitVec.toNat_and,j,a,Nat.and_two_pow_sub_one_eq_mod];omega
def UQ(h:az)(n:Nat)(Y:n<1000000):bc FF 209 [.int .u64 1,.int .u64 (n:Nat)] h (fun v H=>v=.tuple #[.int .u64 0,.int .u64 (n:Nat)]/\H=h):=by
 refine bc.of Dx ?_;unfold vj;have a:IntKind.u64.wrap 0=0:=wrap_u64 _ ab ab;have w:IntKind.u64.wrap 1=1:=wrap_u64 _ ab ab;have j:IntKind.u64.wrap (n:Int)=n:=wrap_u64 _ ab ab;have M:jc .and .u64 1 4294967295=some (.int .u64 1):=by have:=UK 1 ab;show some (Value.int .u64 (IntKind.u64.wrap ((BitVec.ofInt 64 ((1:Nat):Int) &&& BitVec.ofInt 64 4294967295).toNat:Int)))=_;rw[this];simp[w]
 have N:jc .and .u64 (n:Int) 4294967295=some (.int .u64 n):=by have:=UK n ab;show some (Value.int .u64 (IntKind.u64.wrap ((BitVec.ofInt 64 (n:Int) &&& BitVec.ofInt 64 4294967295).toNat:Int)))=_;rw[this,j]
 have U:jc .and .u64 0 4294967295=some (.int .u64 0):=by have:=UK 0 ab;show some (Value.int .u64 (IntKind.u64.wrap ((BitVec.ofInt 64 ((0:Nat):Int) &&& BitVec.ofInt 64 4294967295).toNat:Int)))=_;rw[this];simp[a]
 have Q:ov .shr .u64 0 32=some (.int .u64 0):=by rfl
 have s1:ov .shr .u64 1 32=some (.int .u64 0):=by rfl
 have E:ov .shr .u64 (n:Int) 32=some (.int .u64 0):=by
  have dn:(n:Int).fdiv (2^32)=0:=by rw[Int.fdiv_eq_ediv_of_nonneg _ ag];exact Int.ediv_eq_zero_of_lt ab ab
  show(if(32:Int)<0 then none else some (Value.int .u64 ((n:Int).fdiv (2^(min (32:Int).toNat 64)))))=_;rw[bU ag,show min (32:Int).toNat 64=32 by decide,dn]
 have J:jc .mul .u64 0 (n:Int)=some (.int .u64 0):=by simp[a]
 have D:jc .mul .u64 1 (n:Int)=some (.int .u64 n):=by simp[j]
 have O:jc .mul .u64 1 0=some (.int .u64 0):=by simp[a]
 have q:jc .mul .u64 0 0=some (.int .u64 0):=by simp[a]
 have I:jc .add .u64 0 0=some (.int .u64 0):=by simp[a]
 simp[-jc,M,N,U,Q,s1,E,J,D,O,q,I]
def Rg(h:az)(n:Nat)(j:n<1000000):bc FF 146 [.int .u64 1,.int .u64 (n:Nat)] h (fun v a=>v=.tuple #[.int .u64 0,.int .u64 (n:Nat)]/\a=h):=by refine bc.of GX ?_;unfold yA;simp;rw[FA (t:=false) rfl];simp;refine bm.call (V:=fun v a=>v=.tuple #[.int .u64 0,.int .u64 (n:Nat)]/\a=h) (aj (UQ h n j)) ?_;rintro _ a⟨rfl,rfl⟩;simp
def Ay(E:Enc α)(z0:α)(j:z=E.enc z0)(n:Nat):jn z n=E.flat (List.replicate n z0):=by
 induction n with
 |zero=>rfl
 |succ n a=>rw[jn,a,j,List.replicate_succ,E.ij]
def filled{α:Type}(x z:α)(k n:Nat):List α:=List.replicate k x++List.replicate (n-k) z
def LP(E:Enc α)(x z:α){k m n:Nat}(a:k+m<=n):bg (E.flat (filled x z k n)) (k*E.sz) (E.flat (List.replicate m x))=E.flat (filled x z (k+m) n):=by
 have h1:(E.flat (filled x z k n)).take (k*E.sz)=E.flat (List.replicate k x):=by rw[E.iQ];congr 1;simp[filled]
 have h2:(E.flat (filled x z k n)).drop (k*E.sz+m*E.sz)=E.flat (List.replicate (n-(k+m)) z):=by rw[<-uP,E.mY];congr 1;simp[filled,List.drop_append];omega
 unfold bg;rw[E.dV,List.length_replicate,h1,h2,<-E.d_,<-E.d_,List.replicate_append_replicate];rfl
def JF(o:Nat):aG:=(J_ (G_ [m_ 34 8,m_ 35 7,z_ 36 35,B_ 37 .lss 34 36] (H_ 37 0)) (P_ 1 (V_ [D_ (m_ 38 8),D_ (m_ 39 7),D_ (m_ 40 8),(o_ 41 (.slice o (t_ 39) (some (t_ 40)) none none),[]),D_ (m_ 42 7),D_ (m_ 43 8),(o_ 44 (.slice o (t_ 42) none (some (t_ 43)) none),[]),(o_ 45 (.copy o (t_ 41) (t_ 44)),[]),D_ (B_ 46 .add 38 45),D_ (m_ 8 46)])))
def Hv(z:List Value)(o bytes:Nat):aG:=(G_ [o_ 4 (.mv (.const (.slice none 0 0)))] (J_ (G_ [m_ 9 1,C_ 10 .lss 9 0] (I_ 10 (O_ [⟨(some 11),none,.bad⟩,⟨none,none,.bad⟩]) .skip)) (G_ [m_ 13 0,z_ 14 13,o_ 15 (.conv .u64 (t_ 14)),m_ 16 1,o_ 17 (.conv .u64 (t_ 16)),F_ 18 146 [t_ 15,t_ 17],m_ 12 18,o_ 19 (.ext 0 (t_ 12)),o_ 20 (.ext 1 (t_ 12)),m_ 5 19,m_ 6 20] (J_ (G_ [m_ 21 5,o_ 22 (.bin .gtr [] (t_ 21) (.const (.int .u64 0))),m_ 23 22,q_ 24 23 false (.mv (t_ 6)),q_ 25 23 false (.bin .gtr [] (t_ 24) (.const (.int .u64 9223372036854775807))),o_ 26 (.pick (t_ 23) (b_ true) (t_ 25))] (I_ 26 (O_ [⟨(some 27),none,.bad⟩,⟨none,none,.bad⟩]) .skip)) (G_ [m_ 28 6,o_ 29 (.conv .i64 (t_ 28)),o_ 30 (.gG z bytes (t_ 29) (t_ 29)),m_ 7 30] (G_ [m_ 31 7,m_ 32 0,o_ 33 (.copy o (t_ 31) (t_ 32)),m_ 8 33] (J_ (P_ 0 (.loop (JF o))) (G_ [m_ 47 7,m_ 4 47] .ret))))))))
def Gs(E:Enc α)(hf:FF f=some ⟨[.tmp 4],Hv z E.sz bytes,.no⟩)(yW:bytes<=1000)(z0 x:α)(Z:z=E.enc z0)(ok:cr h)(n:Nat)(M:0<n/\n<1000000){b off c:Nat}(hs:bj E h (.slice (some ⟨b,off,none⟩) 1 c) [x]):bc FF f [.slice (some ⟨b,off,none⟩) 1 c,.int .i64 n] h (fun v a=>ay aZ h a/\∃d s,v=.slice (some ⟨d,0,none⟩) n n/\h.aw<=d/\a.tr.get d=some (.bZ (E.flat (List.replicate n x)) false 0 s)):=by
 have wK:z.length=E.sz:=by rw[Z,E.len]
 have hp:=E.pos;have w1:IntKind.u64.wrap 1=1:=wrap_u64 _ ab ab;have wn:IntKind.u64.wrap (n:Int)=n:=wrap_u64 _ ab ab;have D:IntKind.i64.wrap (n:Int)=n:=cg _ ab ab;have n0:¬(n:Int)<0:=ab
 have n1:¬(9223372036854775807:Int)<n:=ab
 have r1:roomy n=true:=by simp[roomy];omega
 have r2:roomy (n*bytes)=true:=by have:n*bytes<=1000000*1000:=Nat.mul_le_mul ab yW;simp[roomy];omega
 obtain⟨b',CF,c',e',pA,⟨_,_,_,_,J⟩,cZ⟩:=hs.read (i:=0) (x:=x) rfl;injection e' with e1 e2 e3;cases e1;have N:=cZ 0 E.sz ab;simp only[Nat.zero_mul,gU_,List.drop_zero] at N;have yE:cD h b off E.sz=some (E.enc x):=by rw[N,pg (by rw[E.len];exact fh _)]
 have oB:=ok.cn J;have m1:Nat.min 1 n=1:=by show min 1 n=1;omega
 have m2:E.sz<=n*E.sz:=Nat.le_mul_of_pos_left _ M.1;refine bc.of hf ?_;unfold Hv;simp[n0,w1,wn];refine bm.call (V:=fun v a=>v=.tuple #[.int .u64 0,.int .u64 (n:Nat)]/\a=h) (aj (Rg h n M.2)) ?_;rintro _ a⟨rfl,e⟩;subst e;simp[n1,D,r1,r2,wK,hp,m1,bw,oB,yE,E.len,Ay E z0 Z,m2,-ax];have g0:ay aZ a (put (aK a (E.flat (List.replicate n z0)) 0) a.aw 0 (E.flat (List.replicate n z0)) (E.enc x) 0):=(ay.refl ok).var _ _;have Oc:(put (aK a (E.flat (List.replicate n z0)) 0) a.aw 0 (E.flat (List.replicate n z0)) (E.enc x) 0).tr.get a.aw=some (.bZ (E.flat (filled x z0 1 n)) false 0 a.clock):=by rw[aP,NF];have:=LP E x z0 (k:=0) (m:=1) (n:=n) ab;simp only[filled,List.replicate_zero,List.nil_append,Nat.sub_zero,Nat.zero_mul,Hj,List.replicate_one,E.ij,E.abo,Bc] at this⊢;rw[this]
 refine aO.cut (fun h1=>ay aZ a h1/\dg h1 a.aw (E.flat (filled x z0 1 n))) ⟨g0,_,Oc⟩ ?_;rintro h1⟨g1,s1,I⟩;refine aO.loop (fun m e h2=>∃k:Nat,m=n-k/\1<=k/\k<=n/\bH e 7=.slice (some ⟨a.aw,0,none⟩) n n/\bJ e 8 k/\ay aZ a h2/\dg h2 a.aw (E.flat (filled x z0 k n))) ?_ (n:=n-1)
  ⟨1,rfl,fh _,M.1,ae,ae,g1,s1,I⟩
 rintro m e h2⟨k,rfl,hk1,Ps,Q,O,U,s2,w⟩;unfold JF;by_cases gX:k<n
 .have Y:Nat.min k (n-k)=min k (n-k):=rfl;obtain⟨j,hj⟩:∃j,j=min k (n-k):=⟨_,rfl⟩;rw[<-hj] at Y;have q2:¬j=0:=ab
  have q3:k<=n:=ab
  have Ha:cD h2 a.aw 0 (j*E.sz)=some (E.flat (List.replicate j x)):=by have H:j*E.sz<=(filled x z0 k n).length*E.sz:=CX _ (by simp[filled];omega);rw[fD w (aj H),List.drop_zero,E.iQ];congr 2;rw[filled,List.take_append_of_le_length (by simp;omega),List.take_replicate,Nat.min_eq_left ab]
  have dJ:k*E.sz+j*E.sz<=(filled x z0 k n).length*E.sz:=by rw[<-uP];exact CX _ (by simp[filled];omega)
  obtain⟨q,E7⟩:∃q,q=k+j:=⟨_,rfl⟩;have wk:IntKind.i64.wrap ((k:Int)+(j:Int))=(q:Int):=by rw[cg _ ab ab];omega
  have hq:(k:Int)<(n:Int):=ab
  simp[Q,O,gX,hq,Y,q2,q3,w,aQ,Ha,dJ,wk,-ax];refine⟨n-q,ab,q,rfl,ab,ab,ae,?_,?_⟩;exact ay.put U.tick ⟨_,w⟩ (.inl (fh _));rw[E7,<-LP E x z0 ab]
 .have:k=n:=ab
  subst this;simp[Q,O];refine⟨U,s2,?_⟩;rw[w];simp[filled]
def v7:Enc (Int×Int):=⟨fun x=>[.int .i64 x.1,.int .i64 x.2],2,fun _=>rfl,ag,fun _=>rfl⟩
@[simp] def ae7:v7.sz=2:=rfl
@[simp] def amQ(x:Int×Int):v7.enc x=[.int .i64 x.1,.int .i64 x.2]:=rfl
def dz{E:Enc α}{x:α}(a:h.tr.get b=some (.bZ (E.enc x) ro o s)):bj E h (.slice (some ⟨b,0,none⟩) 1 c) [x]:=
 ⟨_,c,rfl,.inr ⟨b,0,_,ro,o,s,rfl,a,by simp[E.len],by simp[pg,E.len]⟩⟩
def RG(j:cr h)(n:Nat)(q:0<n/\n<1000000){b ro o s c:Nat}(w:h.tr.get b=some (.bZ [.int .i64 x] rb o s)):bc FF 144 [.slice (some ⟨b,0,none⟩) 1 c,.int .i64 n] h (fun v a=>ay aZ h a/\∃d s,v=.slice (some ⟨d,0,none⟩) n n/\h.aw<=d/\a.tr.get d=some (.bZ (encI.flat (List.replicate n x)) false 0 s)):=
 Gs encI (z:=[.int .i64 0]) (bytes:=8) mV ag 0 x rfl j n q (dz w)
def JH(j:cr h)(n:Nat)(q:0<n/\n<1000000){b ro o s c:Nat}{x:Int×Int}(w:h.tr.get b=some (.bZ [.int .i64 x.1,.int .i64 x.2] rb o s)):bc FF 86 [.slice (some ⟨b,0,none⟩) 1 c,.int .i64 n] h (fun v a=>ay aZ h a/\∃d s,v=.slice (some ⟨d,0,none⟩) n n/\h.aw<=d/\a.tr.get d=some (.bZ (v7.flat (List.replicate n x)) false 0 s)):=
 Gs v7 (z:=[.int .i64 0,.int .i64 0]) (bytes:=16) fQ ag (0,0) x rfl j n q (dz w)
def YH(h:az):bc FF 146 [.int .u64 1,.int .u64 0] h (fun v a=>v=.tuple #[.int .u64 0,.int .u64 0]/\a=h):=aj (Rg h 0 ab)
def Gt(E:Enc α)(D:FF f=some ⟨[.tmp 4],Hv z E.sz bytes,.no⟩)(M:z.length=E.sz)(H:cr h){b off c:Nat} :bc FF f [.slice (some ⟨b,off,none⟩) 1 c,.int .i64 0] h (fun v a=>ay aZ h a/\∃d s,v=.slice (some ⟨d,0,none⟩) 0 0/\h.aw<=d/\a.tr.get d=some (.bZ [] false 0 s)):=by
 have q:=E.pos;have w:IntKind.u64.wrap 1=1:=wrap_u64 _ ab ab;have I:IntKind.u64.wrap 0=0:=wrap_u64 _ ab ab;have j:IntKind.i64.wrap 0=0:=cg _ ab ab;have J:Nat.min 1 0=0:=rfl;refine bc.of D ?_;unfold Hv;simp[w,I];refine bm.call (V:=fun v a=>v=.tuple #[.int .u64 0,.int .u64 0]/\a=h) (aj (YH h)) ?_;rintro _ a⟨rfl,e⟩;subst e;simp[j,roomy,M,q,jn,J];rw[AA];unfold JF;simp;exact aN H _ _
def adr(a:cr h)(n:Nat)(q:n<1000000){b o s c:Nat}{x:Int×Int}(w:h.tr.get b=some (.bZ [.int .i64 x.1,.int .i64 x.2] rb o s)):bc FF 86 [.slice (some ⟨b,0,none⟩) 1 c,.int .i64 n] h (fun v j=>ay aZ h j/\∃d s,v=.slice (some ⟨d,0,none⟩) n n/\h.aw<=d/\j.tr.get d=some (.bZ (v7.flat (List.replicate n x)) false 0 s)):=by
 cases n with
 |zero=>exact Gt v7 (z:=[.int .i64 0,.int .i64 0]) (bytes:=16) fQ rfl a
 |succ n=>exact JH a (n+1) ⟨ab,q⟩ (ro:=0) w
def JG(a:cr h)(n:Nat)(q:n<1000000){b o s c:Nat}(w:h.tr.get b=some (.bZ [.int .i64 x] rb o s)):bc FF 144 [.slice (some ⟨b,0,none⟩) 1 c,.int .i64 n] h (fun v j=>ay aZ h j/\∃d s,v=.slice (some ⟨d,0,none⟩) n n/\h.aw<=d/\j.tr.get d=some (.bZ (encI.flat (List.replicate n x)) false 0 s)):=by
 cases n with
 |zero=>exact Gt encI (z:=[.int .i64 0]) (bytes:=8) mV rfl a
 |succ n=>exact RG a (n+1) ⟨ab,q⟩ (ro:=0) w
def kF(q:cr h){D:oZ}(w:h.tr.get l=some D)(j:Env)(ps:List Nat)(asg body:aG)(st:Tc):ay (· =l) h (fT h l j ps asg body st):=by refine⟨fh _,fh _,fun x a E=>?_,⟨fun x o a=>?_,fun x cs ro o s a=>?_⟩⟩;simp only[fT,Tr.bN];rw[bU E];simp only[fT,Tr.bN] at a⊢;by_cases e:x=l;subst e;exact q.wf _ _ w;rw[bU e] at a;exact q.wf x o a;simp only[fT,Tr.bN] at a⊢;by_cases e:x=l;rw[bM e] at a;cases a;rw[bU e] at a;exact q.st x cs ro o s a
def qH(h:az)(l:Nat)(a:Env)(ps:List Nat)(asg body:aG)(st:Tc):(fT h l a ps asg body st).tr.get l=some (.loop a ps asg body st):=by simp[fT,Tr.bN]
def Vf{S:Nat->Prop}(Y:cr h1){l j q:Nat}{asg body:aG}{v1 v2:Value}{K:az->Prop}(Z:¬S l)(N:h1.tr.get l=some (.loop e [j,q] asg body .ready))(H:aO FF asg (Tr.set (Tr.set e j v1) q v2) h1 (fun x Q h2=>x=.normal/\ay aZ h1 h2/\∀J,ay (· =l) h2 J->aO FF body Q J (fun x _ a=>x=.normal/\ay S J a/\K a)))(hK:∀a w,K a->cr a->ay (· =l) a w->K w):dU FF (.func (.yield l) #[] #[]) [v1,v2] h1 (fun r w=>r=.bool true/\ay (fun x=>S x\/x=l) h1 w/\w.tr.get l=some (.loop e [j,q] asg body .ready)/\K w):=by
 refine dU.yield N (by simp[fP];rfl) ?_;refine H.mono ?_;rintro x Q h2⟨rfl,I,U⟩;have M:=I.get Y N;refine⟨rfl,M,?_⟩;have gs:=kF I.ok M e [j,q] asg body .busy;refine(U _ gs).mono ?_;rintro x e3 a⟨rfl,E,k4⟩;have D:=E.get gs.ok (qH h2 l e [j,q] asg body .busy) Z;have O:=kF E.ok D e [j,q] asg body .ready;refine⟨⟨_,_,_,_,D,rfl,rfl,rfl,rfl⟩,rfl,?_,qH _ _ _ _ _ _ _,hK _ _ k4 E.ok O⟩;exact((I.ck.trans' gs ai (fun _ _ h=>.inr h)).trans' E ai (fun _ _ h=>.inl h)).trans' O ai (fun _ _ h=>.inr h)
def Kt(h:az)(to:SV):bc FF 148 [to.v] h (fun v a=>v=.func (.func 210) #[] #[.pointer (some ⟨h.aw,0,none⟩)]/\a=aK h [to.v] 0):=by refine bc.of uY ?_;unfold kO;simp
def BwI(ns:List Int)(y:Value)(b:Nat)(I:Nat->az->Prop)(m:Nat)(e:Env)(h2:az):Prop:=m<=ns.length/\bH e 0=y/\cm e 1 b/\bJ e 3 ((m:Int)-1)/\I m h2
def HP{h0 h:az}(dt:cr h0){ns:List Int}(Q:aD nR 1 h0 T.v ns)(hl:ns.length<1000000){y:Value}(I:Nat->az->Prop)(Z:∀j h2,I j h2->ay aZ h0 h2/\dg h2 b [T.v])(H:∀j x h2,ns[j]?=some x->I (j+1) h2->dU FF y [.int .i64 j,.int .i64 x] h2 (fun v q=>v=.bool true/\I j q))(a:I ns.length h):bc FF 210 [y,.pointer (some ⟨b,0,none⟩)] h (fun _ q=>I 0 q):=by
 have Y:=aD.len Q;obtain⟨_,s0,IB⟩:=Z _ _ a;simp at IB;have w:=cg ((ns.length:Int)-1) ab ab;refine bc.of td ?_;unfold jM;simp[IB,Y,w];refine aO.loop (BwI ns y b I) ?_ (n:=ns.length) ⟨fh _,ae,ae,ae,a⟩;rintro m e h2⟨hj,J,O,D,a⟩;unfold iX;cases m with
 |zero=>
  have:¬(0:Int)<= -1:=ab
  simp[D];exact a
 |succ j=>
  have M:ns[j]?=some ns[j]:=g_ ab;generalize ns[j]=x at M;obtain⟨g2,s,E⟩:=Z _ _ a;simp at E;obtain⟨bT,off,c,Bh,_,_,rfl,_,cZ⟩:=aD.later dt Q M;have U:=cZ h2 g2 0 1 ag;simp[-ax] at U;have e3:(((j+1:Nat):Int)-1)=(j:Int):=ab
  rw[e3] at D;have bk:j<ns.length:=ab
  have wj:=cg ((j:Int)-1) ab ab;rw[Bh,Y] at E;simp[J,O,D,aF E,bk,U,-ax];refine bm.e_ (V:=fun v q=>v=.bool true/\I j q) (by simpa [J] using H j x h2 M a) ?_;rintro _ h3⟨rfl,N⟩;simp[D,wj];exact⟨j,ab,ab,au J,au O,ae,N⟩
end Go.Proofs.YtdhnndleffachaaGreatDoor
namespace Go.Proofs.YtdhnndleffachaaGreatDoor
open Go Go.AI
variable{cs:List Value}{h:az}{sz:Nat}{v:Value}{α β:Type}
def zW:Ty:=.pair .bool (.pair (.int .i64) .unit)
def Wx:Ty:=.pair (.int .i64) (.pair (.int .i64) (.pair zW (.pair zW (.pair (.int .i64) (.pair (.sl zW) .unit)))))
def WO:Ty:=.pair (.int .i64) (.pair (.sl zW) .unit)
def amS:Ty:=.pair (.int .i64) (.pair zW (.pair (.sl (.int .i64)) .unit))
def Ad:Ty:=.pair (.sl WO) (.pair (.sl Wx) (.pair amS .unit))
def NX:Ty:=.pair .str (.pair (.int .i64) (.pair (.int .i64) (.pair (.sl Ad) .unit)))
def DK:Ty:=.pair .str (.pair (.int .i64) (.pair (.sl (.int .i64)) .unit))
def FE:Ty:=.pair (.sl DK) (.pair (.sl NX) .unit)
def qf{R:List Value->α->Prop}{D:List Value->β->Prop}{xs:List α}(f:α->β)(s:aD R sz h v xs)(H:∀c x,R c x->D c (f x)):aD D sz h v (xs.map f):=by obtain⟨a,j,rfl,s⟩:=s;refine⟨a,j,by rw[KM],?_⟩;rcases s with⟨rfl,s⟩|⟨b,off,cs,ro,o,st,rfl,I,q⟩;exact .inl ⟨rfl,s⟩;refine .inr ⟨b,off,cs,ro,o,st,rfl,I,fun i y w=>?_⟩;rw[js,Option.map_eq_some_iff] at w;obtain⟨x,E,rfl⟩:=w;exact⟨(q i x E).1,H _ _ (q i x E).2⟩
def ox{R:List Value->α->Prop}{xs:List α}(s:aD R sz h v xs):∃S:SV,v=S.v:=by obtain⟨a,j,rfl,_⟩:=s;exact⟨⟨a,xs.length,j⟩,rfl⟩
def toV(x:zW.den):Bool×Int:=(x.1,x.2.1)
def toI(x:Wx.den):GI:=⟨x.1,x.2.1,toV x.2.2.1,toV x.2.2.2.1,x.2.2.2.2.1,List.map toV x.2.2.2.2.2.1⟩
def toP(x:WO.den):GP:=⟨x.1,List.map toV x.2.1⟩
def toB(x:Ad.den):GB:=⟨List.map toP x.1,List.map toI x.2.1,x.2.2.1.1,toV x.2.2.1.2.1,List.map id x.2.2.1.2.2.1⟩
def toF(x:NX.den):GF:=⟨x.1,x.2.1,x.2.2.1,List.map toB x.2.2.2.1⟩
def toG(x:DK.den):GG:=⟨x.1,x.2.1,List.map id x.2.2.1⟩
def toU(x:FE.den):GU:=⟨List.map toG x.1,List.map toF x.2.1⟩
def Hx{x:zW.den}(r:rep zW h cs x):vR cs (toV x):=by obtain⟨a,b,_⟩:=x;obtain⟨E,_,rfl,j,D,_,rfl,w,q⟩:=r;simp only[rep] at j w q;subst j w q;rfl
def RE{xs:List Int}(s:aD (rep (.int .i64) h) (Ty.sz (.int .i64)) h v xs):aD nR 1 h v (List.map id xs):=
 qf id s fun c x r=>by simpa [rep,nR] using r
def RF{xs:List zW.den}(s:aD (rep zW h) zW.sz h v xs):aD vR 2 h v (List.map toV xs):=
 qf toV s fun _ _ r=>Hx r
def af9{x:Wx.den}(r:rep Wx h cs x):iR h cs (toI x):=by obtain⟨op,H,a,b,fn,J,_⟩:=x;obtain⟨U,_,rfl,w,I,_,rfl,E,M,_,rfl,j,Q,_,rfl,eb,N,_,rfl,q,O,_,rfl,⟨v,rfl,s⟩,D⟩:=r;have j:=Hx j;have eb:=Hx eb;simp only[rep,vR] at w E j eb q D;subst w E j eb q D;obtain⟨S,rfl⟩:=ox s;exact⟨S,rfl,RF s⟩
def af_{x:WO.den}(r:rep WO h cs x):pR h cs (toP x):=by obtain⟨q,w,_⟩:=x;obtain⟨E,_,rfl,a,D,_,rfl,⟨v,rfl,s⟩,j⟩:=r;simp only[rep] at a j;subst a j;obtain⟨S,rfl⟩:=ox s;exact⟨S,rfl,RF s⟩
def Zn{x:Ad.den}(r:rep Ad h cs x):bR h cs (toB x):=by obtain⟨ps,ls,⟨k,on,J,_⟩,_⟩:=x;obtain⟨c1,_,rfl,⟨Q,rfl,s1⟩,I,_,rfl,⟨O,rfl,s2⟩,N,_,rfl,⟨Z,_,rfl,q,U,_,rfl,a,Y,_,rfl,⟨M,rfl,s3⟩,j⟩,w⟩:=r;have a:=Hx a;simp only[rep,vR] at q a j w;subst q a j w;obtain⟨H,rfl⟩:=ox s1;obtain⟨D,rfl⟩:=ox s2;obtain⟨E,rfl⟩:=ox s3;exact⟨H,D,E,rfl,qf toP s1 fun _ _ r=>af_ r,qf toI s2 fun _ _ r=>af9 r,RE s3⟩
def adp{x:NX.den}(r:rep NX h cs x):fR h cs (toF x):=by obtain⟨n,p,q,bs,_⟩:=x;obtain⟨J,_,rfl,a,E,_,rfl,D,H,_,rfl,j,I,_,rfl,⟨v,rfl,s⟩,w⟩:=r;simp only[rep] at a D j w;subst a D j w;obtain⟨S,rfl⟩:=ox s;exact⟨S,rfl,qf toB s fun _ _ r=>Zn r⟩
def Va{x:DK.den}(r:rep DK h cs x):gR h cs (toG x):=by obtain⟨n,p,bs,_⟩:=x;obtain⟨E,_,rfl,a,w,_,rfl,q,D,_,rfl,⟨v,rfl,s⟩,j⟩:=r;simp only[rep] at a q j;subst a q j;obtain⟨S,rfl⟩:=ox s;exact⟨S,rfl,RE s⟩
def adq{x:FE.den}(r:rep FE h cs x):∃G F:SV,cs=[G.v,F.v]/\uR h G F (toU x):=by obtain⟨gs,fs,_⟩:=x;obtain⟨H,_,rfl,⟨E,rfl,s1⟩,w,_,rfl,⟨D,rfl,s2⟩,a⟩:=r;simp only[rep] at a;subst a;obtain⟨q,rfl⟩:=ox s1;obtain⟨j,rfl⟩:=ox s2;exact⟨q,j,rfl,qf toG s1 fun _ _ r=>Va r,qf toF s2 fun _ _ r=>adp r⟩
def map_le(f:α->β)(l:List α)(h:l.length<=140737488351232):(List.map f l).length<=140737488355328:=by rw[KM];omega
def aa1{x:FE.den}(b:Bd (some 140737488351232) FE x):Small (toU x)/\EG (toU x):=by
 obtain⟨gs,fs,_⟩:=x;obtain⟨⟨I,N⟩,⟨D,Z⟩,_⟩:=b;have I:=I _ rfl;have D:=D _ rfl;have w:∀b:Ad.den,Bd (some 140737488351232) Ad b->xK (toB b):=by
  rintro⟨ps,ls,⟨k,on,ts,_⟩,_⟩ ⟨⟨E,J⟩,⟨H,l2⟩,⟨_,_,⟨t1,_⟩,_⟩,_⟩;have E:=E _ rfl;have H:=H _ rfl;have t1:=t1 _ rfl;refine⟨?_,?_,?_,fun p Q=>?_,fun x Y=>?_⟩
  exact map_le _ _ E;exact map_le _ _ H;exact map_le _ _ t1;obtain⟨y,j,rfl⟩:=jo.1 Q;obtain⟨_,⟨h1,_⟩,_⟩:=J y j;have h1:=h1 _ rfl;exact map_le _ _ h1
  obtain⟨y,j,rfl⟩:=jo.1 Y;obtain⟨_,_,_,_,_,⟨h1,_⟩,_⟩:=l2 y j;have h1:=h1 _ rfl;exact map_le _ _ h1
 have q:∀f∈(toU ⟨gs,fs,()⟩).funcs,Fits f.blocks/\∀b∈f.blocks,xK b:=by
  intro f q;obtain⟨y,j,rfl⟩:=jo.1 q;obtain⟨_,_,_,⟨h1,h2⟩,_⟩:=Z y j;have h1:=h1 _ rfl;have a:∀b∈(toF y).blocks,xK b:=by intro b U;obtain⟨z,O,rfl⟩:=jo.1 U;exact w z (h2 z O)
  exact⟨⟨map_le _ _ h1,fun b w=>⟨(a b w).ph,(a b w).li⟩⟩,a⟩
 refine⟨⟨?_,fun f h=>(q f h).1⟩,fun g M=>?_,fun f h=>(q f h).1,fun f h=>(q f h).2⟩;exact map_le _ _ D;obtain⟨y,j,rfl⟩:=jo.1 M;obtain⟨_,_,⟨h1,_⟩,_⟩:=N y j;have h1:=h1 _ rfl;exact map_le _ _ h1
end Go.Proofs.YtdhnndleffachaaGreatDoor
namespace Go.AI.Dfs
variable{b n x:Nat}{l:List Nat}
structure DS where
 seen:List Bool
 left:List Nat
def row(tos:List (List Nat))(b:Nat):List Nat:=(tos[b]?).getD []
def visitM(tos:List (List Nat)):Nat->Nat->DS->DS
 |0,_,s=>s
 |k+1,b,s=>
  let s1:=(row tos b).reverse.foldl (fun s t=>if s.seen[t]?=some true then s else visitM tos k t s) ⟨s.seen.set b true,s.left⟩
  ⟨s1.seen,s1.left++[b]⟩
def foldM(tos:List (List Nat))(k:Nat)(l:List Nat)(s:DS):DS:=l.foldl (fun s t=>if s.seen[t]?=some true then s else visitM tos k t s) s
def gJ(tos:List (List Nat))(k b:Nat)(s:DS):visitM tos (k+1) b s=⟨(foldM tos k (row tos b).reverse ⟨s.seen.set b true,s.left⟩).seen,(foldM tos k (row tos b).reverse ⟨s.seen.set b true,s.left⟩).left++[b]⟩:=rfl
def wX(tos:List (List Nat))(k:Nat)(s:DS):foldM tos k [] s=s:=rfl
def j5(tos:List (List Nat))(k t:Nat)(l:List Nat)(s:DS):foldM tos k (t::l) s=foldM tos k l (if s.seen[t]?=some true then s else visitM tos k t s):=rfl
structure Vis(n:Nat)(s s':DS)(new:List Nat):Prop where
 left:s'.left=s.left++new
 len:s'.seen.length=n
 seen:∀x,s'.seen[x]?=some true↔(s.seen[x]?=some true\/x∈new)
 fresh:∀x∈new,¬s.seen[x]?=some true/\x<n
 nodup:new.Nodup
def xI(l:List Nat)(x p:Nat):Prop:=∃j a,l=j++x::a/\p∈a
def xI.app{x p:Nat}(h:xI l x p)(a b:List Nat):xI (a++l++b) x p:=by obtain⟨q,w,rfl,j⟩:=h;exact⟨a++q,w++b,ae,List.mem_append_left _ j⟩
def xI.last(h:x∈l):xI (l++[b]) x b:=by obtain⟨a,j,rfl⟩:=List.append_of_mem h;exact⟨a,j++[b],ae,ae⟩
def cU(s:DS):Nat:=s.seen.countP (fun x=> !x)
def Vis.trans{s s1 s2:DS}{q w:List Nat}(h1:Vis n s s1 q)(h2:Vis n s1 s2 w):Vis n s s2 (q++w):=by
 refine⟨by rw[h2.left,h1.left,G1],h2.len,fun x=>?_,fun x j=>?_,?_⟩;rw[h2.seen,h1.seen,jS,or_assoc];rcases jS.1 j with j|j;exact h1.fresh x j;have:=h2.fresh x j;exact⟨fun e=>this.1 ((h1.seen x).2 (.inl e)),this.2⟩
 refine List.nodup_append.2 ⟨h1.nodup,h2.nodup,fun a D b E e=>?_⟩;subst e;exact(h2.fresh a E).1 ((h1.seen a).2 (.inr D))
def countP_set{l:List Bool}(h:l[b]?=some false):(l.set b true).countP (fun x=> !x)+1=l.countP (fun x=> !x):=by
 induction l generalizing b with
 |nil=>simp at h
 |cons a l j=>
  cases b with
  |zero=>simp at h;subst h;simp[List.set_cons_zero]
  |succ b=>
   simp at h;have:=j h;rw[List.set_cons_succ,List.countP_cons,List.countP_cons];omega
def countP_le{l m:List Bool}(j:l.length=m.length)(h:∀x:Nat,l[x]?=some true->m[x]?=some true):m.countP (fun x=> !x)<=l.countP (fun x=> !x):=by
 induction l generalizing m with
 |nil=>cases m with
  |nil=>simp
  |cons b m=>simp at j
 |cons a l q=>
  cases m with
  |nil=>simp at j
  |cons b m=>
   simp at j;have:=q j (fun x w=>by have:=h (x+1) (aj w);simpa using this);have h0:=h 0;simp at h0;rw[List.countP_cons,List.countP_cons];cases a<;>cases b<;>simp_all<;>omega
section
variable{tos:List (List Nat)}{n:Nat}
def VT(tos:List (List Nat))(n b:Nat)(s a:DS):Prop:=
 ∃new,Vis n s a (new++[b])/\(∀x∈new++[b],∀t∈row tos x,a.seen[t]?=some true)/\∀x∈new,∃p,x∈row tos p/\xI (new++[b]) x p
def ahS(tos:List (List Nat))(n:Nat)(l:List Nat)(s a:DS):Prop:=
 ∃new,Vis n s a new/\(∀x∈new,∀t∈row tos x,a.seen[t]?=some true)/\(∀t∈l,a.seen[t]?=some true)/\∀x∈new,x∈l\/∃p,x∈row tos p/\xI new x p
def NW(M:∀b t,t∈row tos b->t<n){k:Nat}(I:∀b s,s.seen.length=n->b<n->¬s.seen[b]?=some true->cU s<=k->VT tos n b s (visitM tos k b s)):∀(l:List Nat)(s:DS),s.seen.length=n->(∀t∈l,t<n)->cU s<=k->ahS tos n l s (foldM tos k l s)
 |[],s,q,_,_=>⟨[],⟨by simp[wX],q,by simp[wX],ae,.nil⟩,ae,ae,ae⟩
 |t::l,s,q,E,D=>by
  rw[j5];by_cases w:s.seen[t]?=some true;rw[bM w];obtain⟨new,h1,h2,h3,Z⟩:=NW M I l s q (fun x a=>E x (uQ _ a)) D;refine⟨new,h1,h2,fun x a=>?_,fun x a=>?_⟩;rcases List.mem_cons.1 a with rfl|a;exact(h1.seen x).2 (.inl w);exact h3 x a;rcases Z x a with h|h;exact .inl (uQ _ h);exact .inr h
  .rw[bU w];obtain⟨O,j,c1,p1⟩:=I t s q (E t (h_ ..)) w D;have J:cU (visitM tos k t s)<=k:=sx (countP_le (by rw[q,j.len]) (fun x a=>(j.seen x).2 (.inl a))) D;obtain⟨Q,H,c2,U,Y⟩:=NW M I l _ j.len (fun x a=>E x (uQ _ a)) J;refine⟨O++[t]++Q,j.trans H,fun x a u N=>?_,fun x a=>?_,fun x a=>?_⟩
   rcases jS.1 a with a|a;exact(H.seen u).2 (.inl (c1 x a u N));exact c2 x a u N;rcases List.mem_cons.1 a with rfl|a;exact(H.seen x).2 (.inl ((j.seen x).2 (.inr ae)));exact U x a;rcases jS.1 a with a|a;rcases jS.1 a with a|a;obtain⟨p,h1,h2⟩:=p1 x a;exact .inr ⟨p,h1,aj (h2.app [] Q)⟩;simp at a;subst a;exact .inl (h_ ..);rcases Y x a with h|⟨p,h1,h2⟩;exact .inl (uQ _ h);exact .inr ⟨p,h1,aj (h2.app (O++[t]) [])⟩
def J7(I:∀b t,t∈row tos b->t<n):∀(k b:Nat)(s:DS),s.seen.length=n->b<n->¬s.seen[b]?=some true->cU s<=k->VT tos n b s (visitM tos k b s)
 |0,b,s,O,N,w,D=>by
  exfalso;have E:s.seen[b]?=some false:=by
   rw[g_ ab] at w⊢;cases h:s.seen[b] with
   |true=>rw[h] at w;exact absurd rfl w
   |false=>rfl
  have:=countP_set E;unfold cU at D;omega
 |k+1,b,s,O,N,w,D=>by
  have E:s.seen[b]?=some false:=by
   rw[g_ ab] at w⊢;cases h:s.seen[b] with
   |true=>rw[h] at w;exact absurd rfl w
   |false=>rfl
  have J:=countP_set E;obtain⟨new,v,c,t,p⟩:=NW I (J7 I k) (row tos b).reverse ⟨s.seen.set b true,s.left⟩ (aj O) (fun x j=>I b x (List.mem_reverse.1 j)) (by unfold cU at D⊢;dsimp only;omega);rw[gJ];have H:∀x,(s.seen.set b true)[x]?=some true↔(s.seen[x]?=some true\/x=b):=by intro x;rw[fL];by_cases e:b=x;subst e;simp;omega;rw[bU e];simp[Ne.symm e]
  refine⟨new,⟨by rw[v.left];simp,v.len,fun x=>?_,fun x j=>?_,?_⟩,fun x j u M=>?_,fun x j=>?_⟩;have:=v.seen x;dsimp only at this⊢;rw[this,H,jS];simp;constructor;rintro((h|h)|h);exact .inl h;exact .inr (.inr h);exact .inr (.inl h);rintro(h|h|h);exact .inl (.inl h);exact .inr h;exact .inl (.inr h);rcases jS.1 j with j|j;have:=v.fresh x j;exact⟨fun e=>this.1 ((H x).2 (.inl e)),this.2⟩;simp at j;subst j;exact⟨w,N⟩
  refine List.nodup_append.2 ⟨v.nodup,ae,fun a Q c J e=>?_⟩;simp at J;subst e;subst J;exact(v.fresh a Q).1 ((H a).2 (.inr rfl));rcases jS.1 j with j|j;exact c x j u M;simp at j;subst j;exact t u (List.mem_reverse.2 M);rcases p x j with h|⟨q,h1,h2⟩;exact⟨b,List.mem_reverse.1 h,xI.last j⟩;exact⟨q,h1,aj (h2.app [] [b])⟩
end
def mJ{s:DS}(q:b<s.seen.length)(a:¬s.seen[b]?=some true):cU ⟨s.seen.set b true,s.left⟩+1=cU s:=by
 have j:s.seen[b]?=some false:=by
  rw[g_ q] at a⊢;cases h:s.seen[b] with
  |true=>rw[h] at a;exact absurd rfl a
  |false=>rfl
 exact countP_set j
def Iq{tos:List (List Nat)}{k:Nat}(a:∀b s,(visitM tos k b s).seen.length=s.seen.length):∀(l:List Nat)(s:DS),(foldM tos k l s).seen.length=s.seen.length
 |[],s=>rfl
 |t::l,s=>by rw[j5,Iq a l];split;rfl;exact a t s
def FH(tos:List (List Nat)):∀(k b:Nat)(s:DS),(visitM tos k b s).seen.length=s.seen.length
 |0,_,_=>rfl
 |k+1,b,s=>by rw[gJ];dsimp only;rw[Iq (FH tos k)];simp
def ud{tos:List (List Nat)}{k n:Nat}(a:∀b s,s.seen.length=n->b<n->¬s.seen[b]?=some true->(visitM tos k b s).left.length+cU (visitM tos k b s)<=s.left.length+cU s):∀(l:List Nat)(s:DS),s.seen.length=n->(∀t∈l,t<n)->(foldM tos k l s).left.length+cU (foldM tos k l s)<=s.left.length+cU s
 |[],s,_,_=>fh _
 |t::l,s,w,j=>by rw[j5];split;exact ud a l s w (fun x q=>j x (uQ _ q));rename_i h;have h1:=a t s w (j t (h_ ..)) h;have h2:=ud a l (visitM tos k t s) (by rw[FH];exact w) (fun x q=>j x (uQ _ q));omega
def vP{tos:List (List Nat)}{n:Nat}(a:∀b t,t∈row tos b->t<n):∀(k b:Nat)(s:DS),s.seen.length=n->b<n->¬s.seen[b]?=some true->(visitM tos k b s).left.length+cU (visitM tos k b s)<=s.left.length+cU s
 |0,_,_,_,_,_=>fh _
 |k+1,b,s,w,D,j=>by have h1:=mJ (s:=s) (b:=b) ab j;have h2:=ud (vP a k) (row tos b).reverse ⟨s.seen.set b true,s.left⟩ (aj w) (fun t q=>a b t (List.mem_reverse.1 q));rw[gJ];dsimp only at h2⊢;rw[LV];have:cU ⟨(foldM tos k (row tos b).reverse ⟨s.seen.set b true,s.left⟩).seen,(foldM tos k (row tos b).reverse ⟨s.seen.set b true,s.left⟩).left++[b]⟩=cU (foldM tos k (row tos b).reverse ⟨s.seen.set b true,s.left⟩):=rfl;rw[this];simp only[List.length_singleton];omega
def KH(l:List Bool)(b:Nat):(l.set b true).countP (fun x=> !x)<=l.countP (fun x=> !x):=by
 induction l generalizing b with
 |nil=>simp
 |cons a l j=>
  cases b with
  |zero=>rw[List.set_cons_zero,List.countP_cons,List.countP_cons];simp
  |succ b=>rw[List.set_cons_succ,List.countP_cons,List.countP_cons];have:=j b;omega
def vv{tos:List (List Nat)}{k:Nat}(a:∀b s,cU (visitM tos k b s)<=cU s):∀(l:List Nat)(s:DS),cU (foldM tos k l s)<=cU s
 |[],s=>fh _
 |t::l,s=>by rw[j5];refine sx (vv a l _) ?_;split;exact fh _;exact a t s
def yx(tos:List (List Nat)):∀(k b:Nat)(s:DS),cU (visitM tos k b s)<=cU s
 |0,_,_=>fh _
 |k+1,b,s=>by rw[gJ];have h1:=vv (yx tos k) (row tos b).reverse ⟨s.seen.set b true,s.left⟩;have h2:cU ⟨s.seen.set b true,s.left⟩<=cU s:=KH _ _;exact sx h1 h2
def sK(tos:List (List Nat))(n:Nat):List Nat:=(visitM tos n 0 ⟨List.replicate n false,[]⟩).left
def Ht{tos:List (List Nat)}(h0:0<n)(j:∀b t,t∈row tos b->t<n):(sK tos n).Nodup/\(∀x∈sK tos n,x<n)/\(∃new,sK tos n=new++[0])/\(∀x∈sK tos n,∀t∈row tos x,t∈sK tos n)/\∀x∈sK tos n,x≠0->∃p,x∈row tos p/\xI (sK tos n) x p:=by
 obtain⟨new,v,c,p⟩:=J7 j n 0 ⟨List.replicate n false,[]⟩ ae h0 (by simp[SI]) (by unfold cU;exact sx (List.countP_le_length) ae);have q:sK tos n=new++[0]:=by unfold sK;rw[v.left];simp
 rw[q];refine⟨v.nodup,fun x a=>(v.fresh x a).2,⟨new,rfl⟩,fun x a t j=>?_,fun x a h=>?_⟩;have:=(v.seen t).1 (c x a t j);rcases this with h|h;simp[SI] at h;exact h;rcases jS.1 a with a|a;exact p x a;simp at a;exact absurd a h
end Go.AI.Dfs
namespace Go.Proofs.YtdhnndleffachaaGreatDoor
open Go.AI
variable{B L:SV}{Fb Lf S V W b k n o s sb:Nat}{bs:List GB}{h h0:az}{name:ByteArray}{p r:Int}{ro:Bool}
def ja:Enc Bool:=⟨fun x=>[.bool x],1,fun _=>rfl,ag,fun _=>rfl⟩
@[simp] def aqm:ja.sz=1:=rfl
@[simp] def amO(x:Bool):ja.enc x=[.bool x]:=rfl
def rI{ws:List Bool}(j:h.tr.get W=some (.bZ (ja.flat ws) ro o s)){x:Bool}(a:ws[k]?=some x):cD h W k 1=some [.bool x]:=by have q:=(di.mp a).1;rw[fD j (by rw[ja.dV];show k+1<=ws.length*1;omega)];have:=ja.pW ws k 0 1 x a ag;simp only[gU_] at this;rw[show k=k*ja.sz from(Nat.mul_one k).symm,this];rfl
def JW(ws:List Bool)(i:Nat)(x:Bool)(h:i<ws.length):bg (ja.flat ws) i [.bool x]=ja.flat (ws.set i x):=by have:=ja.qT ws i x h;simpa using this
def gE(bs:List GB):List (List Nat):=bs.map fun b=>b.to.map Int.toNat
structure Xe(h0 h:az)(n S sb Fb V Lf:Nat)(name:ByteArray)(p r:Int)(B L:SV)(s:Dfs.DS):Prop where
 g:ay aZ h0 h
 n1:h0.aw<=sb
 n2:h0.aw<=Lf
 hS:dg h S [.slice (some ⟨sb,0,none⟩) n n]
 Fi:dg h sb (ja.flat s.seen)
 hF:dg h Fb (aC name p r B)
 hV:dg h V [.func (.func 147) #[] #[.pointer (some ⟨S,0,none⟩),.pointer (some ⟨Fb,0,none⟩),.pointer (some ⟨V,0,none⟩),.pointer (some ⟨Lf,0,none⟩)]]
 hL:dg h Lf [L.v]
 acc:bu encI h0.aw h L.v (s.left.map fun x:Nat=>(x:Int))
 len:s.seen.length=n
 ll:s.left.length+Dfs.cU s<=n
 ne:S≠sb/\S≠Lf/\sb≠Fb/\sb≠V/\sb≠Lf/\Fb≠Lf/\V≠Lf
 xV:∀b,bt L.v b->b≠S/\b≠sb/\b≠Fb/\b≠V/\b≠Lf
def PW(sb Lf:Nat)(L:SV)(x:Nat):Prop:=x=sb\/x=Lf\/bt L.v x
def aaM(S sb Fb V Lf:Nat)(L:SV)(x:Nat):Prop:=x=S\/x=sb\/x=Fb\/x=V\/x=Lf\/bt L.v x
def Xe.xj{h0 h h':az}{s:Dfs.DS}(w:Xe h0 h n S sb Fb V Lf name p r B L s){Q:Nat->Prop}(g:ay Q h h')(a:∀x,aaM S sb Fb V Lf L x->¬Q x)(g0:ay aZ h0 h'):Xe h0 h' n S sb Fb V Lf name p r B L s:=by
 obtain⟨t1,h1⟩:=w.hS;obtain⟨q,h2⟩:=w.Fi;obtain⟨D,J⟩:=w.hF;obtain⟨I,E⟩:=w.hV;obtain⟨N,H⟩:=w.hL;have j:=w.g.ok;exact⟨g0,w.n1,w.n2,⟨t1,g.get j h1 (a _ (.inl rfl))⟩,⟨q,g.get j h2 (a _ (.inr (.inl rfl)))⟩,⟨D,g.get j J (a _ (.inr (.inr (.inl rfl))))⟩,⟨I,g.get j E (a _ (.inr (.inr (.inr (.inl rfl)))))⟩,⟨N,g.get j H (a _ (.inr (.inr (.inr (.inr (.inl rfl))))))⟩,w.acc.grow j g (fun b M=>a _ (.inr (.inr (.inr (.inr (.inr M)))))),w.len,w.ll,w.ne,w.xV⟩
def Xe.cn{s:Dfs.DS}(w:Xe h0 h n S sb Fb V Lf name p r B L s):∀x,aaM S sb Fb V Lf L x->x<h.aw:=by
 obtain⟨t1,h1⟩:=w.hS;obtain⟨J,h2⟩:=w.Fi;obtain⟨M,I⟩:=w.hF;obtain⟨N,q⟩:=w.hV;obtain⟨Q,E⟩:=w.hL;have a:=w.g.ok;rintro x (rfl|rfl|rfl|rfl|rfl|⟨off,m,D,e⟩)
 exact a.wf _ _ h1;exact a.wf _ _ h2;exact a.wf _ _ I;exact a.wf _ _ q;exact a.wf _ _ E;rcases w.acc with⟨_,j⟩|⟨O,s2,j,H,_⟩;rw[j] at e;cases e;rw[j] at e;cases e;exact a.wf _ _ H
def vO:aG:=(P_ 1 (G_ [l_ 21 1,m_ 22 7,a_ 23 1 21 22,l_ 24 23,o_ 25 (.un .not (t_ 24))] (I_ 25 (O_ [l_ 26 3,m_ 27 7,o_ 28 (.call (t_ 26) [t_ 27])]) .skip)))
def zY:aG:=(.ops [⟨(some 7),none,(.mv (.tmp 20))⟩])
def Pa:aG:=(.ops [⟨(some 8),none,(.load none (.tmp 1))⟩,⟨(some 9),none,(.mv (.tmp 0))⟩,⟨(some 10),none,(.fw none 1 (.tmp 8) (.tmp 9))⟩,⟨none,none,(.store 1 (.tmp 10) (.const (.bool true)))⟩])
def ahI:aG:=(O_ (R_ 11 3 2 0 6 (f_ 15 2 14::W_ 16 3 15 [F_ 18 148 [t_ 17]])))
def Vx:aG:=(O_ [l_ 29 4,m_ 30 0,v_ 31 zZ 1 30,A_ 32 zZ 8 29 31,s_ 1 4 32])
def adY:zf=.seq Pa (.seq (.seq ahI (.block 0 (.Ko (.tmp 18) [19,20] zY vO))) Vx):=rfl
def aaV(h0 h:az)(n S sb Fb V Lf:Nat)(name:ByteArray)(p r:Int)(B L:SV)(j:Dfs.DS)(h':az):Prop:=
 ∃a:SV,Xe h0 h' n S sb Fb V Lf name p r B a j/\ay (PW sb Lf L) h h'/\∀x,bt a.v x->bt L.v x\/h.aw<=x
def agp{s:Dfs.DS}(hn:n<=1000)(w:Xe h0 h n S sb Fb V Lf name p r B L s)(Ki:s.left.length+1+Dfs.cU s<=n){e:Env}(f0:bJ e 0 b)(f4:cm e 4 Lf){QQ:bK->Env->az->Prop}(H:∀e' h',aaV h0 h n S sb Fb V Lf name p r B L ⟨s.seen,s.left++[b]⟩ h'->QQ .normal e' h'):aO FF Vx e h QQ:=by
 obtain⟨t5,Y⟩:=w.hL;have M:=w.g.ok;simp at Y;unfold Vx;simp[f0,f4,Y];have Z:=aN M (encI.enc (b:Int)) 0;have TO:=w.acc.grow M Z ai;have N:bj encI (aK h (encI.enc (b:Int)) 0) (.slice (some ⟨h.aw,0,none⟩) 1 1) [(b:Int)]:=⟨_,_,rfl,.inr ⟨h.aw,0,_,_,_,_,rfl,bz _ _ _,ae,ae⟩⟩;have h0n:=w.g.aw;obtain⟨v',q,ha,CY,g5,ID⟩:=fx (bytes:=8) Z.ok (z:=[.int .i64 0]) rfl TO N (by simp;omega) ag (by show h0.aw<=h.aw+1;omega);refine cR ha ?_;obtain⟨W,rfl⟩:=bu.C5 CY;have D:=w.cn;have E:ay (bt L.v) h q:=Z.ck.trans g5;have j:=E.get M Y (fun e=>(w.xV _ e).2.2.2.2 rfl);have lo:∀x,bt L.v x->h0.aw<=x:=fun x a=>w.acc.of a;have J:ay aZ h0 q:=w.g.trans' E ai (fun x a e=>av (lo x e));simp[j,f4];obtain⟨t1,h1⟩:=w.hS;obtain⟨t2,h2⟩:=w.Fi;obtain⟨t3,h3⟩:=w.hF;obtain⟨t4,h4⟩:=w.hV;obtain⟨m1,m2,m3,m4,m5,m6,m7⟩:=w.ne;have O:ay (· =Lf) q (put q Lf 0 [.slice L.a L.l L.c] [.slice W.a W.l W.c] 0):=aY J.ok j;have I:∀x (U:oZ),h.tr.get x=some U->¬bt L.v x->x≠Lf->(put q Lf 0 [.slice L.a L.l L.c] [.slice W.a W.l W.c] 0).tr.get x=some U:=fun x U a n1 n2=>O.get J.ok (E.get M a n1) n2;have Q:∀x,bt W.v x->h.aw+1<=x:=fun x a=>by have:=ID x a;simp at this;omega
 refine H _ _ ⟨W,⟨J.put ⟨_,j⟩ (.inl w.n2),w.n1,w.n2,⟨t1,I _ _ h1 (fun e=>(w.xV _ e).1 rfl) m2⟩,⟨t2,I _ _ h2 (fun e=>(w.xV _ e).2.1 rfl) m5⟩,⟨t3,I _ _ h3 (fun e=>(w.xV _ e).2.2.1 rfl) m6⟩,⟨t4,I _ _ h4 (fun e=>(w.xV _ e).2.2.2.1 rfl) m7⟩,⟨q.clock,ae⟩,?_,w.len,?_,w.ne,fun x a=>?_⟩,?_,fun x a=>.inr (av (Q x a))⟩;have:=CY.grow J.ok O (fun x a e=>by have:=Q x a;have:=D Lf (.inr (.inr (.inr (.inr (.inl rfl)))));omega);simpa using this;have:Dfs.cU ⟨s.seen,s.left++[b]⟩=Dfs.cU s:=rfl;rw[this];simp;omega;have:=Q x a;have o1:=D S (.inl rfl);have o2:=D sb (.inr (.inl rfl));have o3:=D Fb (.inr (.inr (.inl rfl)));have o4:=D V (.inr (.inr (.inr (.inl rfl))));have o5:=D Lf (.inr (.inr (.inr (.inr (.inl rfl)))));exact⟨ab,ab,ab,ab,ab⟩
 exact E.trans' O (fun x _ h=>.inr (.inr h)) (fun x _ e=>.inr (.inl e)) |>.cY ai
def ads{x:GB}(h:bs[b]?=some x):Dfs.row (gE bs) b=x.to.map Int.toNat:=by unfold Dfs.row gE;rw[js,h];rfl
def vM(E:jB bs):∀b t,t∈Dfs.row (gE bs) b->t<bs.length:=by
 intro b t j;unfold Dfs.row gE at j;rw[js] at j;cases q:bs[b]? with
 |none=>rw[q] at j;simp at j
 |some x=>
  rw[q] at j;simp at j;obtain⟨a,w,rfl⟩:=j;have:=E.to x (cN q) a w;omega
def TJ{tos:List (List Nat)}{k:Nat}{ns:List Nat}{j x:Nat}(a:ns[j]?=some x)(s:Dfs.DS):Dfs.foldM tos k (ns.reverse.take (ns.length-j)) s=(let s1:=Dfs.foldM tos k (ns.reverse.take (ns.length-(j+1))) s;if s1.seen[x]?=some true then s1 else Dfs.visitM tos k x s1):=by
 have w:=(di.mp a).1;have e:ns.length-j=(ns.length-(j+1))+1:=ab
 have q:ns.reverse[ns.length-(j+1)]?=some x:=by rw[List.getElem?_reverse ab];rw[<-a];congr 1;omega
 rw[e,lg,q];unfold Dfs.foldM;rw[List.foldl_append];rfl
section
variable{h0:az}{bs:List GB}{B:SV}
def Vy(dt:cr h0)(hB:qg h0 B bs)(E:jB bs)(hn:bs.length=n):∀(k b:Nat)(h:az)(L:SV)(s:Dfs.DS),Xe h0 h n S sb Fb V Lf name p r B L s->b<n->¬s.seen[b]?=some true->Dfs.cU s<=k->bc FF 147 [.int .i64 b,.pointer (some ⟨S,0,none⟩),.pointer (some ⟨Fb,0,none⟩),.pointer (some ⟨V,0,none⟩),.pointer (some ⟨Lf,0,none⟩)] h (fun _ M=>aaV h0 h n S sb Fb V Lf name p r B L (Dfs.visitM (gE bs) k b s) M):=by
 intro k;induction k with
 |zero=>
  intro b h L s w D hs hk;have:=Dfs.mJ (s:=s) (b:=b) (by rw[w.len];exact D) hs;omega
 |succ k ih=>
  intro b h L s w D hs hk;have KT:=E.len;have dT:=aD.len hB;have hfs:=Dfs.mJ (s:=s) (b:=b) (by rw[w.len];exact D) hs;obtain⟨x,hx⟩:=aV bs b;have hm:=cN hx;obtain⟨t1,hS⟩:=w.hS;obtain⟨t2,Fi⟩:=w.Fi;obtain⟨t3,hF⟩:=w.hF;obtain⟨m1,m2,m3,m4,m5,m6,m7⟩:=w.ne;have ok:=w.g.ok;have ow:=w.cn;have Mg:b+1<=s.seen.length:=by rw[w.len];omega
  refine bc.of HZ ?_;rw[adY];rw[show Pa=_ from rfl];unfold Pa;simp[hS,D,Fi,Mg];refine aO.cut (fun h1=>Xe h0 h1 n S sb Fb V Lf name p r B L ⟨s.seen.set b true,s.left⟩/\ay (· =sb) h h1) ?_ ?_;have gp:ay (· =sb) h (put h sb b (ja.flat s.seen) [.bool true] 0):=aY ok Fi;have kp:∀y (ob:oZ),h.tr.get y=some ob->y≠sb->(put h sb b (ja.flat s.seen) [.bool true] 0).tr.get y=some ob:=fun y ob a n1=>gp.get ok a n1;obtain⟨t4,hV⟩:=w.hV;obtain⟨t5,hL⟩:=w.hL;refine⟨⟨w.g.put ⟨_,Fi⟩ (.inl w.n1),w.n1,w.n2,⟨t1,kp _ _ hS m1⟩,⟨h.clock,by rw[aP,JW _ _ _ ab]⟩,⟨t3,kp _ _ hF (Ne.symm m3)⟩,⟨t4,kp _ _ hV (Ne.symm m4)⟩,⟨t5,kp _ _ hL (Ne.symm m5)⟩,w.acc.grow ok gp (fun y a e=>(w.xV y a).2.1 e),by simp[w.len],?_,w.ne,w.xV⟩,gp⟩;have:=w.ll;show s.left.length+Dfs.cU ⟨s.seen.set b true,s.left⟩<=n;omega
  rintro h1⟨w1,g1⟩;obtain⟨bb,off,c,fp,_,_,⟨P,L2,T,rfl,sP,sL,sT⟩,_,cZ⟩:=aD.later dt hB hx;have r5:=cZ h1 w1.g 5 1 ag;simp[-ax] at r5;obtain⟨t6,yD⟩:=w1.hF;simp only[aC] at yD;have u5:=aD.len sT;unfold ahI;rw[hn] at dT;simp only[SV.yJ,fp,dT] at yD;simp[aF yD,D,r5,-ax];refine bm.call (V:=fun v M=>v=.func (.func 210) #[] #[.pointer (some ⟨h1.aw,0,none⟩)]/\M=aK h1 [T.v] 0) (aj (Kt h1 T)) ?_;rintro _ h2⟨rfl,e2⟩;have g12:ay aZ h1 h2:=by rw[e2];exact aN w1.g.ok _ _
  have an0:h2.tr.get h1.aw=some (.bZ [T.v] false 0 0):=by rw[e2];exact bz _ _ _
  have hnx2:h2.aw=h1.aw+1:=by rw[e2];rfl
  clear e2;simp;have O:=w1.g.trans g12;have SY:=O.ok;have ow1:=w1.cn;have aoq:h.aw<=h1.aw:=g1.aw;have ob2:=SY.cn an0;generalize hse:(⟨s.seen.set b true,s.left⟩:Dfs.DS)=s1 at*;have avb:Dfs.cU s1<=k:=ab
  have aon:s1.seen.length=n:=w1.len;obtain⟨ns,hns⟩:∃ns,ns=x.to.map Int.toNat:=⟨_,rfl⟩;have avH:ns.length=x.to.length:=by rw[hns];simp
  have hltn:∀(i:Nat),aaM S sb Fb V Lf L i->i<h2.aw:=fun i hi=>by have:=ow1 i hi;have:=g12.aw;omega
  refine aO.Ko (g:=210) (first:= #[]) (caps:= #[.pointer (some ⟨h1.aw,0,none⟩)]) ae ?_;obtain⟨e,he⟩:∃e,e=((((((((((((((((Tr.nil.set 0 (Value.int IntKind.i64 ↑b)).set 1 (Value.pointer (some { block:=S,off:=0 }))).set 2 (Value.pointer (some { block:=Fb,off:=0 }))).set 3 (Value.pointer (some { block:=V,off:=0 }))).set 4 (Value.pointer (some { block:=Lf,off:=0 }))).set 8 (Value.slice (some { block:=sb,off:=0 }) n n)).set 9 (Value.int IntKind.i64 ↑b)).set 10 (Value.pointer (some { block:=sb,off:=b }))).set 11 (Value.pointer (some { block:=Fb,off:=3 }))).set 12 (Value.slice (some { block:=bb,off:=off }) n B.c)).set 13 (Value.int IntKind.i64 ↑b)).set 14 (Value.pointer (some { block:=bb,off:=off+b*6 }))).set 15 (Value.pointer (some { block:=bb,off:=off+b*6+2 }))).set 16 (Value.pointer (some { block:=bb,off:=off+b*6+2+3 }))).set 17 (Value.slice T.a T.l T.c)).set 18 (Value.func (Fn.func 210) #[] #[Value.pointer (some { block:=h1.aw,off:=0 })])):=⟨_,rfl⟩;rw[<-he];have e1:bH e 1=.pointer (some ⟨S,0,none⟩):=by rw[he];simp
  have e3:bH e 3=.pointer (some ⟨V,0,none⟩):=by rw[he];simp
  have e0:bH e 0=.int .i64 b:=by rw[he];simp
  have e4:bH e 4=.pointer (some ⟨Lf,0,none⟩):=by rw[he];simp
  clear he;have g23:ay aZ h2 (h2.new (.loop e [19,20] zY vO .ready)):=by refine⟨Nat.le_succ _,fh _,fun b D _=>It _ D,⟨fun b ob D=>?_,fun b cs ro op s D=>?_⟩⟩;simp only[az.new,Tr.bN] at D⊢;by_cases e:b=h2.aw;omega;rw[bU e] at D;exact Nat.lt_succ_of_lt (SY.wf b ob D);simp only[az.new,Tr.bN] at D⊢;by_cases e:b=h2.aw;rw[bM e] at D;cases D;rw[bU e] at D;exact SY.st b cs ro op s D
  have hl3:(h2.new (.loop e [19,20] zY vO .ready)).tr.get h2.aw=some (.loop e [19,20] zY vO .ready):=by simp[az.new,Tr.bN]
  have hnx3:(h2.new (.loop e [19,20] zY vO .ready)).aw=h2.aw+1:=rfl;generalize h2.new (.loop e [19,20] zY vO .ready)=h3 at*;have g13:ay aZ h1 h3:=g12.trans g23;have w3:Xe h0 h3 n S sb Fb V Lf name p r B L s1:=w1.xj g13 ai (w1.g.trans g13);have au1:=g23.get SY an0
  let I:Nat->az->Prop:=fun j hh=>∃H:SV,Xe h0 hh n S sb Fb V Lf name p r B H (Dfs.foldM (gE bs) k (ns.reverse.take (ns.length-j)) s1)/\(∀y,bt H.v y->bt L.v y\/h3.aw<=y)/\ay (fun y=>PW sb Lf L y\/y=h2.aw) h3 hh/\hh.tr.get h2.aw=some (.loop e [19,20] zY vO .ready)/\hh.tr.get h1.aw=some (.bZ [T.v] false 0 0)
  have ajR:∀H:SV,(∀y,bt H.v y->bt L.v y\/h3.aw<=y)->∀y,aaM S sb Fb V Lf H y->y≠h2.aw/\y≠h1.aw:=by
   intro H J y a;have lo:∀y,aaM S sb Fb V Lf L y->y<h1.aw:=ow1;rcases a with h|h|h|h|h|h
   have:=lo y (.inl h);omega;have:=lo y (.inr (.inl h));omega;have:=lo y (.inr (.inr (.inl h)));omega;have:=lo y (.inr (.inr (.inr (.inl h))));omega;have:=lo y (.inr (.inr (.inr (.inr (.inl h)))));omega
   rcases J y h with h|h;have:=lo y (.inr (.inr (.inr (.inr (.inr h)))));omega;omega
  have BD:=HP (h0:=h0) (h:=h3) dt (b:=h1.aw) sT (av (E.two x hm)) (y:=.func (.yield h2.aw) #[] #[]) I (fun j hh ⟨H,w',_,_,_,ia⟩=>⟨w'.g,0,ia⟩) ?_ ⟨L,by rw[<-avH];simpa [Dfs.foldM] using w3,fun y a=>.inl a,.refl w3.g.ok,hl3,au1⟩
  .refine(by simpa using BD:bc FF 210 _ _ _).mono ?_;rintro _ h4⟨H,w4,XS,g34,hl4,hb4⟩;refine vV.ready hl4 ?_;refine Eq.mp (by rw[UY];rfl) (?_:aO FF _ _ _ _);have gd:ay (· =h2.aw) h4 (DE h4 h2.aw):=ir w4.g.ok h2.aw;have l02:h0.aw<=h2.aw:=O.aw;have N:=w4.xj gd (fun y a e=>(ajR H XS y a).1 e) (w4.g.trans' gd ai (fun y a e=>ab));have nC:Dfs.row (gE bs) b=ns:=by rw[ads hx,hns]
   have pq:ns.reverse.take (ns.length-0)=ns.reverse:=pg ae;rw[pq] at N;have aiS:=Dfs.ud (Dfs.vP (vM E) k) ns.reverse s1 (by rw[aon,hn]) (fun t ht=>vM E b t (by rw[nC];exact List.mem_reverse.1 ht));have awd:s1.left=s.left:=by rw[<-hse]
   have Ki:=w.ll;rw[awd] at aiS;refine agp ab N ab e0 e4 ?_;rintro e' M⟨L2',Y,U,Z⟩;simp;have hv:Dfs.visitM (gE bs) (k+1) b s=⟨(Dfs.foldM (gE bs) k ns.reverse s1).seen,(Dfs.foldM (gE bs) k ns.reverse s1).left++[b]⟩:=by rw[Dfs.gJ,nC,hse]
   rw[hv];have l5:h4.aw<=(DE h4 h2.aw).aw:=gd.aw;refine⟨L2',Y,?_,fun y a=>?_⟩
   .have q1:ay (PW sb Lf L) h h1:=g1.cY (fun _ _ e=>.inl e);have q2:ay (PW sb Lf L) h h3:=q1.trans g13.ck;have q3:ay (PW sb Lf L) h h4:=q2.trans' g34 ai (fun y a h=>h.elim id (fun e=>ab));have q4:ay (PW sb Lf L) h (DE h4 h2.aw):=q3.trans' gd ai (fun y a e=>ab);refine q4.trans' U ai (fun y a h=>?_);rcases h with h|h|h
    exact .inl h;exact .inr (.inl h);rcases XS y h with h|h;exact .inr (.inr h);omega
   rcases Z y a with h|h;rcases XS y h with h|h;exact .inl h;exact .inr ab;exact .inr (av g34.aw)
  .intro j y hh a ⟨H,w',J,g3h,hlh,hbh⟩;have C4:=w'.g.ok;have nL:=ajR H J;have l3h:=g3h.aw;have hyn:(ns[j]?)=some y.toNat:=by rw[hns,js,a];rfl
   obtain⟨u9,yU⟩:=E.to x hm y (cN a);obtain⟨u,rfl⟩:∃u:Nat,y=u:=⟨y.toNat,ab⟩;rw[gW_] at hyn;have Pt:u<n:=ab
   have Gm:=TJ (tos:=gE bs) (k:=k) hyn s1;generalize hsj:Dfs.foldM (gE bs) k (ns.reverse.take (ns.length-(j+1))) s1=sj at*;have azT:sj.seen.length=n:=w'.len;have hfj:Dfs.cU sj<=k:=by rw[<-hsj];exact sx (Dfs.vv (Dfs.yx (gE bs) k) _ _) avb
   obtain⟨bv,Q⟩:=aV sj.seen u
   let K:az->Prop:=fun M=>∃q:SV,Xe h0 M n S sb Fb V Lf name p r B q (Dfs.foldM (gE bs) k (ns.reverse.take (ns.length-j)) s1)/\(∀z,bt q.v z->bt L.v z\/h3.aw<=z)/\M.tr.get h1.aw=some (.bZ [T.v] false 0 0)
   refine(Vf (S:=PW sb Lf H) (K:=K) C4 (l:=h2.aw) (fun h=>?_) hlh ?_ ?_).mono ?_;rcases h with h|h|h;exact(nL sb (.inr (.inl rfl))).1 h.symm;exact(nL Lf (.inr (.inr (.inr (.inr (.inl rfl)))))).1 h.symm;exact(nL _ (.inr (.inr (.inr (.inr (.inr h)))))).1 rfl
   .unfold zY;simp;refine⟨.refl C4,fun h5 g5=>?_⟩;have l0h:h0.aw<=h2.aw:=O.aw;have N:=w'.xj g5 (fun y a e=>(nL y a).1 e) (w'.g.trans' g5 ai (fun y a e=>ab));have hb5:=g5.get C4 hbh (fun e=>ab);obtain⟨t7,hS5⟩:=N.hS;obtain⟨t8,awe⟩:=N.Fi;obtain⟨t9,hV5⟩:=N.hV;have rs:=rI awe Q;unfold vO;cases bv with
    |true=>
     simp[e1,aF hS5,Pt,rs,-ax];refine⟨.refl N.g.ok,H,?_,J,hb5⟩;rw[Gm];simpa [Q] using N
    |false=>
     simp[e1,e3,aF hS5,aF hV5,Pt,rs,-ax];refine bm.e_ (V:=fun _ M=>aaV h0 h5 n S sb Fb V Lf name p r B H (Dfs.visitM (gE bs) k u sj) M) ?_ ?_
     .have V1:dU FF (.func (.func 147) #[] #[.pointer (some ⟨S,0,none⟩),.pointer (some ⟨Fb,0,none⟩),.pointer (some ⟨V,0,none⟩),.pointer (some ⟨Lf,0,none⟩)]) [.int .i64 u] h5 (fun _ M=>aaV h0 h5 n S sb Fb V Lf name p r B H (Dfs.visitM (gE bs) k u sj) M):=
       dU.func (aj (ih u h5 H sj N Pt (by rw[Q];simp) hfj))
      simpa using V1
     rintro v h6⟨q,Y,U,Z⟩;simp;have l5h:=g5.aw;refine⟨U,q,?_,fun z hz=>?_,U.get N.g.ok hb5 (fun h=>?_)⟩
     rw[Gm];simpa [Q] using Y;rcases Z z hz with h|h;exact J z h;exact .inr ab;rcases h with h|h|h;exact(nL sb (.inr (.inl rfl))).2 h.symm;exact(nL Lf (.inr (.inr (.inr (.inr (.inl rfl)))))).2 h.symm;exact(nL _ (.inr (.inr (.inr (.inr (.inr h)))))).2 rfl
   rintro h5 h6⟨q,Y,Z,Ub⟩ ok5 U;have l0h:h0.aw<=h2.aw:=O.aw;exact⟨q,Y.xj U (fun y a e=>(ajR q Z y a).1 e) (Y.g.trans' U ai (fun y a e=>ab)),Z,U.get ok5 Ub (fun e=>ab)⟩
   rintro v h5⟨rfl,g5,hl5,q,Y,Z,Ub⟩;refine⟨rfl,q,Y,Z,?_,hl5,Ub⟩;refine g3h.trans' g5 ai (fun z hz h=>?_);rcases h with h|h;rcases h with h|h|h;exact .inl (.inl h);exact .inl (.inr (.inl h));rcases J z h with h|h;exact .inl (.inr (.inr h));omega;exact .inr h
end
def lQ{ws:List Int}(j:h.tr.get W=some (.bZ (encI.flat ws) ro o s)){x:Int}(a:ws[k]?=some x):cD h W k 1=some [.int .i64 x]:=by have q:=(di.mp a).1;rw[fD j (by rw[encI.dV];show k+1<=ws.length*1;omega)];have:=encI.pW ws k 0 1 x a ag;simp only[gU_] at this;rw[show k=k*encI.sz from(Nat.mul_one k).symm,this];rfl
def qU(ws:List Int)(i:Nat)(x:Int)(h:i<ws.length):bg (encI.flat ws) i [.int .i64 x]=encI.flat (ws.set i x):=by have:=encI.qT ws i x h;simpa using this
def uy(bs:List GB):List Int:=(Dfs.sK (gE bs) bs.length).map fun x:Nat=>(x:Int)
def Cw(n:Nat):Dfs.cU ⟨List.replicate n false,[]⟩=n:=by
 unfold Dfs.cU;dsimp only;induction n with
 |zero=>rfl
 |succ n a=>rw[List.replicate_succ,List.countP_cons,a];rfl
def MK(q:cr h){name:ByteArray}{p r:Int}(D:qg h B bs)(E:jB bs)(h0:0<bs.length):bc FF 87 [.agg ⟨aC name p r B⟩] h (fun v a=>ay aZ h a/\∃L:SV,v=L.v/\bu encI h.aw a L.v (uy bs)):=by
 have I:=aD.len D;have hl:=E.len;have N:roomy bs.length=true:=by simp[roomy];omega
 have Y:roomy (bs.length*1)=true:=by simp[roomy];omega
 have O:jn [Value.bool false] bs.length=ja.flat (List.replicate bs.length false):=by
  have:∀n,jn [Value.bool false] n=ja.flat (List.replicate n false):=by
   intro n;induction n with
   |zero=>rfl
   |succ n J=>rw[List.replicate_succ,Enc.ij,<-J];rfl
  exact this _
 refine bc.of Nx ?_;unfold Dr;simp[aC,I,N,O];refine bm.cut (fun h1=>Xe h h1 bs.length (h.aw+3) (h.aw+2) h.aw (h.aw+4) (h.aw+1) name p r B cK ⟨List.replicate bs.length false,[]⟩) ?_ ?_
 .refine⟨?_,ab,ab,⟨h.clock,?_⟩,⟨0,?_⟩,⟨0,?_⟩,⟨h.clock+1,?_⟩,⟨0,?_⟩,.inl ⟨rfl,rfl⟩,ae,by simp[Cw],ab,fun b ⟨_,_,_,e⟩=>by cases e⟩
  .repeat (first|exact .refl q|apply ay.new|refine ay.put ?_ (by simp[EV]) (.inl ab))
  simp[EV];simp[EV];simp[EV,aC,I];simp[EV];simp[EV,cK]
 intro h1 w;obtain⟨t4,U⟩:=w.hV;have lV:=(w.g.ok.cn U).lt;refine bm.e_ (V:=fun _ a=>aaV h h1 bs.length (h.aw+3) (h.aw+2) h.aw (h.aw+4) (h.aw+1) name p r B cK (Dfs.visitM (gE bs) bs.length 0 ⟨List.replicate bs.length false,[]⟩) a) ?_ ?_
 have M:=Vy q D E rfl bs.length 0 h1 cK _ w h0 (by simp[SI]) (by rw[Cw];exact fh _);have Q:dU FF (.func (.func 147) #[] #[.pointer (some ⟨h.aw+3,0,none⟩),.pointer (some ⟨h.aw,0,none⟩),.pointer (some ⟨h.aw+4,0,none⟩),.pointer (some ⟨h.aw+1,0,none⟩)]) [.int .i64 0] h1 _:=dU.func (aj M);simpa using Q
 rintro v h2⟨L,j,Z,_⟩;obtain⟨t5,H⟩:=j.hL;simp at H;simp[H];exact⟨j.g,L,⟨rfl,rfl,rfl⟩,j.acc⟩
def asE(n0 b:Nat)(h:az)(xs:List Int)(m:Nat)(e:Env)(h2:az):Prop:=
 ∃(i:Nat) (a:List Int),m=xs.length-i/\i<=xs.length/\bH e 0=.slice (some ⟨b,0,none⟩) xs.length xs.length/\bJ e 2 i/\bJ e 3 ((xs.length:Int)-1-i)/\ay (· =b) h h2/\(∃s,h2.tr.get b=some (.bZ (encI.flat a) false 1 s))/\a.length=xs.length/\∀k,k<xs.length->a[k]?=if k<i\/xs.length<=k+i then xs[xs.length-1-k]? else xs[k]?
def OL(ok:cr h){n0:Nat}{xs:List Int}(a:bu encI n0 h L.v xs)(hl:xs.length<1000000):bc FF 199 [L.v] h (fun _ h'=>ay (bt L.v) h h'/\bu encI n0 h' L.v xs.reverse):=by
 have w:=cg ((xs.length:Int)-1) ab ab;refine bc.of vZ ?_;unfold mf;rcases a with⟨rfl,e⟩|⟨b,s,e,hb,hx,hn⟩;have w0:IntKind.i64.wrap (0-1)= -1:=cg _ ab ab;have w0':IntKind.i64.wrap (-1)= -1:=cg _ ab ab;rw[e];simp[w0,w0'];rw[AA];unfold gU;simp;exact⟨.refl ok,.inl ⟨rfl,rfl⟩⟩
 .rw[e];simp[w];refine aO.loop (asE n0 b h xs) ?_ (n:=xs.length) ⟨0,xs,rfl,ab,ae,ae,ae,.refl ok,⟨s,hb⟩,rfl,fun k H=>by rw[bU ab]⟩;rintro m U h2⟨i,q,rfl,hi,f0,f2,Z,Q,⟨s2,M⟩,yU,D⟩;unfold gU;by_cases Wo:(i:Int)<(xs.length:Int)-1-i
  .obtain⟨j,hj⟩:∃j:Nat,(j:Int)=(xs.length:Int)-1-i:=⟨xs.length-1-i,ab⟩;have bk:j<xs.length:=ab
   have gh:i<xs.length:=ab
   rw[<-hj] at Z;have Y:i<j:=ab
   obtain⟨x,J⟩:=aV q i;obtain⟨y,yT⟩:=aV q j;have rx:=lQ M J;have ry:=lQ M yT;have wi:=cg ((i:Int)+1) ab ab;have wj:=cg ((j:Int)-1) ab ab;have k1:i+1<=q.length:=ab
   have k2:j+1<=q.length:=ab
   have N:bg (encI.flat q) i [.int .i64 y]=encI.flat (q.set i y):=qU _ _ _ ab;have O:bg (encI.flat (q.set i y)) j [.int .i64 x]=encI.flat ((q.set i y).set j x):=qU _ _ _ (by simp;omega);simp[f0,f2,Z,Y,bk,gh,aQ,rx,ry,M,k1,k2,wi,wj,N,-ax];have Pl:(put (tick h2) b i (encI.flat q) [.int .i64 y] 1).tr.get b=some (.bZ (encI.flat (q.set i y)) false 1 (tick h2).clock):=by rw[aP,N]
   have g3:ay (· =b) h (put (tick h2) b i (encI.flat q) [.int .i64 y] 1):=Q.tick.trans (aY Q.tick.ok M);refine⟨xs.length-(i+1),ab,i+1,(q.set i y).set j x,rfl,ab,au f0,ae,by simp;omega,g3.trans (aY g3.ok Pl),⟨_,by rw[aP,O]⟩,au yU,fun k H=>?_⟩;rw[fL,fL];have I:=D i gh;have E:=D j bk;rw[bU ab] at I E;by_cases e1:j=k
   subst e1;rw[bM rfl,bM (by simp;omega),bM ab,<-J,I];congr 1;omega;rw[bU e1];by_cases U:i=k;subst U;rw[bM rfl,bM ab,bM ab,<-yT,E];congr 1;omega;rw[bU U,D k H];by_cases c:k<i\/xs.length<=k+i;rw[bM c,bM ab];rw[bU c,bU ab]
  .simp[f2,Z,Wo];have e:q=xs.reverse:=by refine Cy fun k=>?_;by_cases H:k<xs.length;rw[List.getElem?_reverse H,D k H];split;rfl;congr 1;omega;rw[wY ab,wY (by simp;omega)]
   refine⟨Q.cY (fun x _ e=>e▸⟨_,_,_,rfl⟩),.inr ⟨b,s2,ae,by rw[<-e];exact M,aj hx,hn⟩⟩
def CJ(D:cr h){name:ByteArray}{p r:Int}(O:qg h B bs)(E:jB bs)(h0:0<bs.length):bc FF 138 [.agg ⟨aC name p r B⟩] h (fun v j=>ay aZ h j/\∃L:SV,v=L.v/\bu encI h.aw j L.v (uy bs).reverse):=by
 refine bc.of GV ?_;unfold yz;simp[aC];have g0:=aN D (aC name p r B) 0;refine bm.call (V:=fun v j=>ay aZ (aK h (aC name p r B) 0) j/\∃L:SV,v=L.v/\bu encI (h.aw+1) j L.v (uy bs)) (by simpa [aC] using MK g0.ok (name:=name) (p:=p) (r:=r) (O.mono D g0) E h0) ?_;rintro _ h1⟨N,L,rfl,H⟩;have w:=g0.trans N;have J:(uy bs).length<1000000:=by
  have P:=Dfs.Ht h0 (vM E);have:(Dfs.sK (gE bs) bs.length).length<=bs.length:=by have:=gT_ P.1 (l₂:=List.range bs.length) (fun x q=>N4.2 (P.2.1 x q));simpa using this
  have:=E.len;unfold uy;simp;omega
 simp;refine bm.call (V:=fun _ j=>ay (bt L.v) h1 j/\bu encI (h.aw+1) j L.v (uy bs).reverse) (aj (OL w.ok H J)) ?_;rintro _ h2⟨M,I⟩;simp;refine⟨w.trans' M ai (fun x q e=>av (H.of e)),L,⟨rfl,rfl,rfl⟩,?_⟩;rcases I with a|⟨b,s,e,Q,q,U⟩;exact .inl a;exact .inr ⟨b,s,e,Q,q,ab⟩
end Go.Proofs.YtdhnndleffachaaGreatDoor
namespace Go.AI.Dom
variable{A B u:Nat->Nat}{b i k x y:Nat}
inductive ee(u:Nat->Nat):Nat->Nat->Prop
 |refl (x:Nat):ee u x x
 |step {x y:Nat} :ee u (u x) y->ee u x y
structure Down(u:Nat->Nat):Prop where
 zero:u 0=0
 lt:∀i,0<i->u i<i
def ee.trans{x y z:Nat}(h:ee u x y)(k:ee u y z):ee u x z:=by
 induction h with
 |refl=>exact k
 |step _ a=>exact .step (a k)
def ee.le(d:Down u)(h:ee u x y):y<=x:=by
 induction h with
 |refl=>exact fh _
 | @step x y _ a=>
  rcases gp_ x with rfl|j;rw[d.zero] at a;exact a;have:=d.lt x j;omega
def ee.up(h:ee u x y)(a:x≠y):ee u (u x) y:=by
 cases h with
 |refl=>exact absurd rfl a
 |step h=>exact h
def ee.local{u v:Nat->Nat}(d:Down u)(e:∀i,i<b->u i=v i)(h:ee u x y)(a:x<b):ee v x y:=by
 induction h with
 |refl=>exact .refl _
 | @step x y _ j=>
  refine .step ?_;rw[<-e x a];refine j ?_;rcases gp_ x with rfl|h0;rw[d.zero];exact a;have:=d.lt x h0;omega
def mix(A B:Nat->Nat)(b i:Nat):Nat:=if i<b then B i else A i
def acR(h:i<b):mix A B b i=B i:=bM h
def UP(h:¬i<b):mix A B b i=A i:=bU h
def Down.mix{A B:Nat->Nat}(a:Down A)(b:Down B)(k:Nat):Down (mix A B k):=by refine⟨?_,fun i j=>?_⟩;unfold Dom.mix;split;exact b.zero;exact a.zero;unfold Dom.mix;split;exact b.lt i j;exact a.lt i j
def vi(a:Down A)(b:Down B)(q:x<k):ee (mix A B k) x y↔ee B x y:=
 ⟨fun h=>h.local (a.mix b k) (fun i j=>acR j) q,fun h=>h.local b (fun i j=>(acR j).symm) q⟩
def Qt(a:Down A)(N:0<b):∀w,∃q,q<b/\ee A w q/\∀B,ee (mix A B b) w q/\∀x,x<b->ee (mix A B b) w x->ee (mix A B b) q x:=by
 intro w;induction w using Nat.strongRecOn with
 |ind w D=>
  by_cases h:w<b;exact⟨w,h,.refl _,fun B=>⟨.refl _,fun _ _ h=>h⟩⟩
  .have j:0<w:=ab
   obtain⟨q,h1,h2,I⟩:=D (A w) (a.lt w j);refine⟨q,h1,.step h2,fun B=>?_⟩;obtain⟨E,H⟩:=I B;refine⟨.step (by rw[UP h];exact E),fun x M J=>?_⟩;have:=J.up ab;rw[UP h] at this;exact H x M this
section
variable(m:Nat)(vH:Nat->List Nat)
def Round(A B:Nat->Nat):Prop:=∀b,0<b->b<m->(∀w∈vH b,ee (mix A B b) w (B b))/\∀z,(∀w∈vH b,ee (mix A B b) w z)->ee (mix A B b) (B b) z
def aaP(B:Nat->Nat):Prop:=∀b,0<b->b<m->(∀w∈vH b,w<b->ee B w (B b))/\∀z,(∀w∈vH b,w<b->ee B w z)->ee B (B b) z
def wN(A B:Nat->Nat):Prop:=∀p,0<p->p<m->ee B (A p) (B p)
end
section
variable{m:Nat}{vH:Nat->List Nat}{A B C:Nat->Nat}
def wN.mono(a:Down A)(E:Down B)(W:∀p,0<p->p<k->ee B (A p) (B p)):∀w,w<k->∀x,ee B w x->ee A w x:=by
 intro w;induction w using Nat.strongRecOn with
 |ind w D=>
  intro q x j;by_cases e:w=x;subst e;exact .refl _;rcases gp_ w with rfl|h0;have:=j.le E;omega;have h1:=j.up e;have h2:=(W w h0 q).trans h1;exact .step (D (A w) (a.lt w h0) (av (a.lt w h0)) x h2)
def wN.below(a:Down A)(M:Down B)(W:∀p,0<p->p<k->ee B (A p) (B p))(N:0<b):∀p,p<k->∃q,q<b/\ee A p q/\ee (mix A B b) p q/\∀x,x<b->ee B p x->ee B q x:=by
 intro p;induction p using Nat.strongRecOn with
 |ind p w=>
  intro j;by_cases h:p<b;exact⟨p,h,.refl _,.refl _,fun _ _ h=>h⟩
  .have h0:0<p:=ab
   have D:=a.lt p h0;obtain⟨q,h1,h2,I,E⟩:=w (A p) D ab;refine⟨q,h1,.step h2,.step (by rw[UP h];exact I),fun x J H=>?_⟩;exact E x J ((W p h0 j).trans (H.up ab))
def wN.over(j:Down B)(W:∀p,0<p->p<k->ee C (B p) (C p)):∀w,w<k->∀u,ee B w u->∀x,x<=u->ee C w x->ee C u x:=by
 intro w;induction w using Nat.strongRecOn with
 |ind w E=>
  intro D u q x J a;by_cases e:w=u;subst e;exact a
  .have I:=q.le j;have h0:0<w:=ab
   have H:=j.lt w h0;exact E (B w) H ab u (q.up e) x J ((W w h0 D).trans (a.up ab))
def JI(I:Down A)(j:Down B)(E:Down C)(hf:∀b,0<b->b<m->∃w∈vH b,w<b)(hp:∀b w,w∈vH b->w<m)(J:aaP m vH B\/(Round m vH A B/\wN m A B))(N:Round m vH B C):wN m B C:=by
 intro p;induction p using Nat.strongRecOn with
 |ind p ih=>
  intro h0 H;have W:∀q,0<q->q<p->ee C (B q) (C q):=fun q hq U=>ih q U hq ab;have mono:=wN.mono j E W;obtain⟨M,_⟩:=N p h0 H;have Z:=E.lt p h0;have hu:=j.lt p h0;have hB:ee B (B p) (C p):=by rcases J with h|⟨h,hW⟩;refine(h p h0 H).2 _ fun w D a=>?_;exact mono w a _ ((vi j E a).1 (M w D));refine(vi I j hu).1 ((h p h0 H).2 _ fun w D=>?_);by_cases a:w<p;exact(vi I j a).2 (mono w a _ ((vi j E a).1 (M w D)));obtain⟨q,Y,q2,q3⟩:=Qt j h0 w;have h1:=(q3 C).2 _ Z (M w D);have h2:=mono q Y _ ((vi j E Y).1 h1);have h3:=q2.trans h2;obtain⟨r,r1,_,r3,r4⟩:=wN.below I j hW h0 w (hp p w D);exact r3.trans ((vi I j r1).2 (r4 _ Z h3))
  have Q:=hB.le j;obtain⟨w,D,a⟩:=hf p h0 H;have O:ee B w (B p):=by rcases J with h|⟨h,_⟩;exact(h p h0 H).1 w D a;exact(vi I j a).1 ((h p h0 H).1 w D)
  exact wN.over j W w a _ O _ Q ((vi j E a).1 (M w D))
def wN.le(a:Down B)(j:Down A)(W:wN m A B):∀p,p<m->B p<=A p:=by intro p q;rcases gp_ p with rfl|h0;rw[a.zero,j.zero];exact fh _;exact(W p h0 q).le a
end
def total(u:Nat->Nat):Nat->Nat
 |0=>0
 |n+1=>total u n+u n
def Su{u v:Nat->Nat} :∀n,(∀i,i<n->u i<=v i)->total u n<=total v n
 |0,_=>fh _
 |n+1,h=>by have:=Su n (fun i a=>h i ab);have:=h n ab;simp only[total];omega
def Sv{u v:Nat->Nat} :∀n,(∀i,i<n->u i<=v i)->(∃i,i<n/\u i≠v i)->total u n<total v n
 |0,_,⟨i,a,_⟩=>ab
 |n+1,h,⟨i,a,j⟩=>by
  have h1:=Su n (fun i a=>h i ab);have h2:=h n ab;simp only[total];by_cases e:i=n
  subst e;omega;have:=Sv n (fun i a=>h i ab) ⟨i,ab,j⟩;omega
def GJ{u:Nat->Nat}{k:Nat} :∀n,(∀i,i<n->u i<=k)->total u n<=n*k
 |0,_=>by simp[total]
 |n+1,h=>by have:=GJ n (fun i a=>h i ab);have:=h n ab;simp only[total,uP];omega
end Go.AI.Dom
namespace Go.AI.Tree
open Go.AI.Dom
variable{A V:Nat->Nat}{ah:List (List Int)}{b i k n x y z:Nat}{bp:List Nat}{p:Int}{ps us:List Int}
structure SG(bp:List Nat)(us:List Int)(n:Nat)(V:Nat->Nat)(k:Nat):Prop where
 len:us.length=n
 set:∀(i x:Nat),bp[i]?=some x->i<k->∃y:Nat,bp[V i]?=some y/\us[x]?=some (y:Int)
 un:∀(i x:Nat),bp[i]?=some x->k<=i->us[x]?=some (-1)
 out:∀x,x<n->x∉bp->us[x]?=some (-1)
structure Ord(bp:List Nat)(n:Nat):Prop where
 nd:bp.Nodup
 lt:∀x∈bp,x<n
 zero:bp[0]?=some 0
def Ord.inj(o:Ord bp n){i j x:Nat}(q:bp[i]?=some x)(a:bp[j]?=some x):i=j:=by have h1:=(di.mp q).1;have h2:=(di.mp a).1;have D:=(di.mp q).2;have w:=(di.mp a).2;exact(List.getElem_inj o.nd).1 (D.trans w.symm)
def PI(d:Down V)(h:y<x)(w:Nat):(ee V x w/\ee V y w)↔(ee V (V x) w/\ee V y w):=by
 constructor;rintro⟨h1,h2⟩;have:=h2.le d;exact⟨h1.up ab,h2⟩
 rintro⟨h1,h2⟩;exact⟨.step h1,h2⟩
def BQ(bp:List Nat)(V:Nat->Nat)(k:Nat)(ps:List Int)(a:Int):Prop:=
 (a= -1/\∀p∈ps,∀i,i<k->¬ ∃x:Nat,bp[i]?=some x/\p=x)\/∃z y:Nat,z<k/\bp[z]?=some y/\a=y/\(∃p∈ps,∃i,i<k/\∃x:Nat,bp[i]?=some x/\p=x)/\∀w,ee V z w↔ ∀p∈ps,∀i,i<k->(∃x:Nat,bp[i]?=some x/\p=x)->ee V i w
def BQ.nil(bp:List Nat)(V:Nat->Nat)(k:Nat):BQ bp V k [] (-1):=.inl ⟨rfl,fun p a=>by cases a⟩
def BQ.skip{E p:Int}(b:BQ bp V k ps E)(D:∀i,i<k->¬ ∃x:Nat,bp[i]?=some x/\p=x):BQ bp V k (ps++[p]) E:=by rcases b with⟨e,h⟩|⟨z,y,N,M,e,⟨q,a,j⟩,h⟩;refine .inl ⟨e,fun q a=>?_⟩;rcases jS.1 a with a|a;exact h q a;simp at a;subst a;exact D;refine .inr ⟨z,y,N,M,e,⟨q,jS.2 (.inl a),j⟩,fun w=>(h w).trans ⟨fun H q a i I J=>?_,fun H q a=>H q (jS.2 (.inl a))⟩⟩;rcases jS.1 a with a|a;exact H q a i I J;simp at a;subst a;exact absurd J (D i I)
def BQ.one(o:Ord bp n)(b:BQ bp V k ps (-1))(I:i<k)(D:bp[i]?=some x)(E:p=x):BQ bp V k (ps++[p]) p:=by
 rcases b with⟨_,h⟩|⟨z,y,_,_,e,_⟩
 .refine .inr ⟨i,x,I,D,E,⟨p,ae,i,I,x,D,E⟩,fun w=>⟨fun H q a j N ⟨M,J,O⟩=>?_,fun H=>H p ae i I ⟨x,D,E⟩⟩⟩;rcases jS.1 a with a|a;exact absurd ⟨M,J,O⟩ (h q a j N)
  .simp at a;subst a;have:M=x:=ab
   subst this;rw[o.inj J D];exact H
 omega
def BQ.meet(o:Ord bp n){a:Nat}{m:Int}(b:BQ bp V k ps (a:Int))(O:bp[i]?=some x)(hi:i<k)(Q:p=x)(U:∀I,bp[I]?=some a->I<k->∃z y:Nat,z<k/\bp[z]?=some y/\m=y/\∀w,ee V z w↔(ee V I w/\ee V i w)):BQ bp V k (ps++[p]) m:=by
 rcases b with⟨e,h⟩|⟨z,y,hz,hy,e,⟨q,D,E⟩,h⟩;omega
 .have:a=y:=ab
  subst this;obtain⟨z',y',J,Y,e',Z⟩:=U z hy hz;refine .inr ⟨z',y',J,Y,e',⟨q,jS.2 (.inl D),E⟩,fun w=>(Z w).trans ?_⟩;rw[h w];constructor
  .rintro⟨h1,h2⟩ q D j hj ⟨N,M,Fe⟩;rcases jS.1 D with D|D;exact h1 q D j hj ⟨N,M,Fe⟩
   .simp at D;subst D;have:N=x:=ab
    subst this;rw[o.inj M O];exact h2
  intro H;exact⟨fun q D=>H q (jS.2 (.inl D)),H p ae i hi ⟨x,O,Q⟩⟩
def mO(bp:List Nat)(ah:List (List Int))(b:Nat):List Nat:=
 (List.range bp.length).filter fun i=>match bp[i]?,bp[b]? with
  |some x,some y=>((ah[y]?).getD []).contains (x:Int)
  |_,_=>false
def pV(w:bp[b]?=some y)(j:ah[y]?=some ps) :i∈mO bp ah b↔ ∃x:Nat,bp[i]?=some x/\(x:Int)∈ps:=by
 unfold mO;rw[Ai,N4,w];constructor
 .rintro⟨h1,h2⟩;cases a:bp[i]? with
  |none=>rw[a] at h2;simp at h2
  |some x=>rw[a] at h2;simp[j] at h2;exact⟨x,rfl,h2⟩
 rintro⟨x,a,q⟩;refine⟨(di.mp a).1,?_⟩;rw[a];simpa [j] using q
def Jx(b w:Nat)(h:w∈mO bp ah b):w<bp.length:=by unfold mO at h;exact N4.1 (Ai.1 h).1
def tz(V:Nat->Nat)(i z j:Nat):Nat:=if j=i then z else V j
def Down.tz{V:Nat->Nat}(d:Down V){i z:Nat}(q:0<i)(w:z<i):Down (tz V i z):=by refine⟨?_,fun j a=>?_⟩;unfold Tree.tz;rw[bU ab];exact d.zero;unfold Tree.tz;split;omega;exact d.lt j a
structure Mid(bp:List Nat)(ah:List (List Int))(n:Nat)(us:List Int)(first:Bool)(A V:Nat->Nat)(i:Nat)(dE:Bool):Prop where
 rep:SG bp us n V (if first then i else bp.length)
 dn:Down V
 cn:first=false->∀j,i<=j->V j=A j
 apS:first=true->∀b,0<b->b<i->(∀w∈mO bp ah b,w<b->ee V w (V b))/\∀z,(∀w∈mO bp ah b,w<b->ee V w z)->ee V (V b) z
 rnd:first=false->∀b,0<b->b<i->(∀w∈mO bp ah b,ee (mix A V b) w (V b))/\∀z,(∀w∈mO bp ah b,ee (mix A V b) w z)->ee (mix A V b) (V b) z
 chg:first=false->dE=true->∃j,j<i/\V j≠A j
def SG.put(o:Ord bp n)(r:SG bp us n V k)(q:bp[i]?=some x)(J:bp[z]?=some y)(O:k<=i+1)(Q:i<=k):SG bp (us.set x (y:Int)) n (tz V i z) (i+1):=by
 have I:x<us.length:=by rw[r.len];exact o.lt x (cN q)
 refine⟨by simp[r.len],fun j w a D=>?_,fun j w a D=>?_,fun w H E=>?_⟩;by_cases e:j=i;subst e;rw[q] at a;cases a;exact⟨y,by rw[tz,bM rfl,J],by rw[fL,bM rfl,bM I]⟩;obtain⟨M,h1,h2⟩:=r.set j w a ab;refine⟨M,by rw[tz,bU e,h1],?_⟩;rw[fL,bU (fun e'=>e (by subst e';exact o.inj a q)),h2]
 .have N:¬x=w:=fun e'=>by subst e';have:=o.inj a q;omega
  rw[fL,bU N];exact r.un j w a ab
 rw[fL,bU (fun e':x=w=>E (e'▸cN q))];exact r.out w H E
def SG.axS(o:Ord bp n)(r:SG bp us n V k)(q:bp[i]?=some x)(J:bp[z]?=some y)(O:i<k):SG bp (us.set x (y:Int)) n (tz V i z) k:=by
 have I:x<us.length:=by rw[r.len];exact o.lt x (cN q)
 refine⟨by simp[r.len],fun j w a D=>?_,fun j w a D=>?_,fun w H E=>?_⟩;by_cases e:j=i;subst e;rw[q] at a;cases a;exact⟨y,by rw[tz,bM rfl,J],by rw[fL,bM rfl,bM I]⟩;obtain⟨M,h1,h2⟩:=r.set j w a ab;refine⟨M,by rw[tz,bU e,h1],?_⟩;rw[fL,bU (fun e'=>e (by subst e';exact o.inj a q)),h2]
 .have N:¬x=w:=fun e'=>by subst e';have:=o.inj a q;omega
  rw[fL,bU N];exact r.un j w a ab
 rw[fL,bU (fun e':x=w=>E (e'▸cN q))];exact r.out w H E
def WH(a:b<=i):mix A (tz V i z) b=mix A V b:=by funext j;unfold mix tz;by_cases h:j<b;rw[bM h,bM h,bU ab];rw[bU h,bU h]
def Mid.step{bp:List Nat}{ah:List (List Int)}{n:Nat}(o:Ord bp n){us:List Int}{first dE:Bool}{A V:Nat->Nat}{i:Nat}(m:Mid bp ah n us first A V i dE)(h0:0<i){x:Nat}(D:bp[i]?=some x){ps:List Int}(Z:ah[x]?=some ps)(hf:∃w∈mO bp ah i,w<i){tX:Int}(hb:BQ bp V (if first then i else bp.length) ps tX):∃y z:Nat,tX=y/\bp[z]?=some y/\Mid bp ah n (us.set x tX) first A (tz V i z) (i+1) (dE||(decide (us[x]? ≠some tX))):=by
 have gh:=(di.mp D).1;obtain⟨w0,SX,hw0i⟩:=hf;have hk:i<=(if first then i else bp.length):=by split<;>omega
 obtain⟨xw,Y,Kl⟩:=(pV D Z).1 SX;rcases hb with⟨e,h⟩|⟨z,y,hz,hy,rfl,_,H⟩;exact absurd ⟨xw,Y,rfl⟩ (h _ Kl w0 ab);have QP:z<i:=by have:=((H z).1 (.refl _)) _ Kl w0 ab ⟨xw,Y,rfl⟩;have:=this.le m.dn;omega
 refine⟨y,z,rfl,hy,?_⟩;have M:Down (tz V i z):=Down.tz m.dn h0 QP;have loc:∀w u,w<i->(ee (tz V i z) w u↔ee V w u):=fun w u q=>⟨fun h=>h.local M (fun j N=>by unfold tz;rw[bU ab]) q,fun h=>h.local m.dn (fun j N=>by unfold tz;rw[bU ab]) q⟩;cases U:first with
 |true=>
  have r:=m.rep;rw[U] at r H;simp only[bM] at r H;refine⟨?_,M,fun h=>by simp at h,fun _ b IB hbi=>?_,fun h=>by simp at h,fun h=>by simp at h⟩;have:=r.put o D hy ab ab;simpa using this
  .by_cases e:b=i
   .subst e;have Q:tz V b z b=z:=by unfold tz;rw[bM rfl]
    rw[Q];refine⟨fun w q a=>?_,fun u hu=>?_⟩;obtain⟨J,O,E⟩:=(pV D Z).1 q;exact(loc w z a).2 (((H z).1 (.refl _)) _ E w a ⟨J,O,rfl⟩);refine(loc z u QP).2 ((H u).2 fun p hp j N ⟨J,O,x7⟩=>?_);exact(loc j u N).1 (hu j ((pV D Z).2 ⟨J,O,x7▸hp⟩) N)
   .have I:b<i:=ab
    have Q:tz V i z b=V b:=by unfold tz;rw[bU e]
    rw[Q];obtain⟨h1,h2⟩:=m.apS U b IB I;have hVb:=m.dn.lt b IB;refine⟨fun w q a=>(loc w _ ab).2 (h1 w q a),fun u hu=>(loc _ u ab).2 (h2 u fun w q a=>(loc w u ab).1 (hu w q a))⟩
 |false=>
  have r:=m.rep;rw[U] at r H;simp only[XE,if_false] at r H;have cn:=m.cn U;have avx:mix A V i=V:=by funext j;unfold mix;split;rfl;exact(cn j ab).symm
  refine⟨?_,M,fun _ j N=>?_,fun h=>by simp at h,fun _ b IB hbi=>?_,fun _ hm=>?_⟩;have:=r.axS o D hy gh;simpa using this;unfold tz;rw[bU ab];exact cn j ab
  .by_cases e:b=i
   .subst e;have Q:tz V b z b=z:=by unfold tz;rw[bM rfl]
    rw[Q,WH (fh _),avx];refine⟨fun w q=>?_,fun u hu=>?_⟩;obtain⟨J,O,E⟩:=(pV D Z).1 q;exact((H z).1 (.refl _)) _ E w (Jx _ _ q) ⟨J,O,rfl⟩;refine(H u).2 fun p hp j N ⟨J,O,x7⟩=>?_;exact hu j ((pV D Z).2 ⟨J,O,x7▸hp⟩)
   .have I:b<i:=ab
    have Q:tz V i z b=V b:=by unfold tz;rw[bU e]
    rw[Q,WH ab];exact m.rnd U b IB I
  .by_cases hmo:dE=true;obtain⟨j,N,eQ⟩:=m.chg U hmo;exact⟨j,ab,by unfold tz;rw[bU ab];exact eQ⟩
   .have avz:dE=false:=aj hmo
    rw[avz] at hm;simp only[Bool.false_or,decide_eq_true_eq] at hm;refine⟨i,ab,?_⟩;unfold tz;rw[bM rfl];intro e;obtain⟨y',h1,h2⟩:=r.set i x D gh;rw[cn i (fh _),<-e,hy] at h1;cases h1;exact hm h2
def Btw(bp:List Nat)(ah:List (List Int))(V:Nat->Nat):Prop:=
 Down V/\(aaP bp.length (mO bp ah) V\/∃A,Down A/\Round bp.length (mO bp ah) A V/\wN bp.length A V)
def axJ(o:Ord bp n):SG bp ((List.replicate n (-1:Int)).set 0 0) n (fun i=>i-1) 1:=by
 have h0:=o.lt 0 (cN o.zero);have q:∀x,¬x=0->x<n->((List.replicate n (-1:Int)).set 0 0)[x]?=some (-1):=by intro x j D;rw[fL,bU (fun e=>j e.symm),SI,bM D]
 refine⟨ae,fun i x a w=>?_,fun i x a w=>?_,fun x j E=>?_⟩
 .have:i=0:=ab
  subst this;rw[o.zero] at a;cases a;exact⟨0,o.zero,by rw[fL,bM rfl,bM (aj h0)];rfl⟩
 refine q x (fun e=>?_) (o.lt x (cN a));subst e;have:=o.inj a o.zero;omega
 exact q x (fun e=>E (e▸cN o.zero)) j
def YG(o:Ord bp n)(A:Nat->Nat)(a:Bool):Mid bp ah n ((List.replicate n (-1:Int)).set 0 0) true A (fun i=>i-1) 1 a:=
 ⟨aj (axJ o),⟨rfl,fun i j=>by show i-1<i;omega⟩,fun h=>by simp at h,fun _ b h1 h2=>ab,fun h=>by simp at h,fun h=>by simp at h⟩
def acQ(r:SG bp us n A bp.length)(d:Down A):Mid bp ah n us false A A 1 false:=
 ⟨aj r,d,fun _ _ _=>rfl,fun h=>by simp at h,fun _ b h1 h2=>ab,fun _ h=>by simp at h⟩
def Mid.done{first H:Bool}(m:Mid bp ah n us first A V bp.length H)(N:first=false->Btw bp ah A)(E:∀b,0<b->b<bp.length->∃w∈mO bp ah b,w<b):Btw bp ah V/\SG bp us n V bp.length/\(first=false->H=true->total V bp.length<total A bp.length):=by
 have r:=m.rep;cases a:first with
 |true=>
  rw[a] at r;exact⟨⟨m.dn,.inl fun b h1 h2=>m.apS a b h1 h2⟩,aj r,fun h=>by simp at h⟩
 |false=>
  rw[a] at r;obtain⟨q,M⟩:=N a;have R:Round bp.length (mO bp ah) A V:=fun b h1 h2=>m.rnd a b h1 h2;have W:wN bp.length A V:=by rcases M with h|⟨U,D,h1,h2⟩;exact JI q q m.dn E (fun b w=>Jx b w) (.inl h) R;exact JI D q m.dn E (fun b w=>Jx b w) (.inr ⟨h1,h2⟩) R
  refine⟨⟨m.dn,.inr ⟨A,q,R,W⟩⟩,aj r,fun _ I=>?_⟩;obtain⟨j,J,Q⟩:=m.chg a I;exact Sv _ (fun i O=>wN.le m.dn q W i O) ⟨j,J,Q⟩
def Xf(us:List Int)(n:Nat):Prop:=us.length=n/\∃a:Nat->Nat,(∀x,a x<=n)/\∀(x:Nat)(v:Int),us[x]?=some v->v= -1\/∃y:Nat,v=y/\y<n/\a y<a x
def ap2(o:Ord bp n)(d:Down V)(r:SG bp us n V bp.length)(D:bp.length<=n):Xf (us.set 0 (-1)) n:=by
 refine⟨by simp[r.len],fun x=>bp.idxOf x,fun x=>sx List.idxOf_le_length D,fun x v a=>?_⟩;rw[fL] at a;by_cases e:0=x;rw[bM e] at a;split at a;cases a;exact .inl rfl;cases a
 .rw[bU e] at a;have J:x<n:=by have:=(di.mp a).1;rw[r.len] at this;exact this
  by_cases E:x∈bp
  .obtain⟨i,w⟩:=iI E;have M:=(di.mp w).1;obtain⟨y,h1,h2⟩:=r.set i x w M;rw[h2] at a;cases a;have h0:0<i:=by rcases gp_ i with rfl|h;rw[o.zero] at w;cases w;exact absurd rfl e;exact h
   have q:∀(j z:Nat),bp[j]?=some z->bp.idxOf z=j:=by
    intro j z H;have N:=cN H;have I:=List.idxOf_lt_length_iff.2 N;have:bp[bp.idxOf z]?=some z:=by rw[g_ I,List.getElem_idxOf I]
    exact o.inj this H
   refine .inr ⟨y,rfl,o.lt y (cN h1),?_⟩;dsimp only;rw[q _ _ h1,q _ _ w];exact d.lt i h0
  have:=r.out x J E;rw[this] at a;cases a;exact .inl rfl
end Go.AI.Tree
namespace Go.Proofs.YtdhnndleffachaaGreatDoor
open Go.AI
variable{V:Nat->Nat}{ah:List (List Int)}{bp:List Nat}{d3 d4 d5 d8 i k n n8 x:Nat}{h h0:az}{sJ us:List Int}{ws:List SV}
def amc(h:az)(bp:List Nat)(V:Nat->Nat)(k n E D x y:Nat)(m:Nat)(e:Env)(h2:az):Prop:=
 ∃j a q w:Nat,m=j+a/\bp[j]?=some q/\bp[a]?=some w/\j<k/\a<k/\bH e 0=.slice (some ⟨E,0,none⟩) n n/\bH e 1=.slice (some ⟨D,0,none⟩) n n/\bJ e 2 q/\bJ e 3 w/\ay aZ h h2/\∀u,(Dom.ee V x u/\Dom.ee V y u)↔(Dom.ee V j u/\Dom.ee V a u)
def YA(ok:cr h)(o:Tree.Ord bp n)(r:Tree.SG bp us n V k)(dn:Dom.Down V){d1 d2 o1 s1 o2 s2:Nat}{ro1 ro2:Bool}(h1:h.tr.get d1=some (.bZ (encI.flat us) ro1 o1 s1))(h2:h.tr.get d2=some (.bZ (encI.flat sJ) ro2 o2 s2))(hla:sJ.length=n)(Kg:∀i x:Nat,bp[i]?=some x->sJ[x]?=some (i:Int)){x y a b:Nat}(hx:bp[x]?=some a)(hy:bp[y]?=some b)(hxk:x<k)(hyk:y<k):bc FF 145 [.slice (some ⟨d1,0,none⟩) n n,.slice (some ⟨d2,0,none⟩) n n,.int .i64 a,.int .i64 b] h
   (fun v h'=>ay aZ h h'/\∃z w:Nat,v=.int .i64 w/\z<k/\bp[z]?=some w/\∀u,Dom.ee V z u↔(Dom.ee V x u/\Dom.ee V y u)):=by
 refine bc.of To ?_;unfold HO;simp;refine aO.loop (amc h bp V k n d1 d2 x y) ?_ (n:=x+y) ⟨x,y,a,b,rfl,hx,hy,hxk,hyk,ae,ae,ae,ae,.refl ok,fun u=>Iff.rfl⟩;rintro m e h3⟨j,q,E,O,rfl,J,I,M,Y,f0,f1,f2,f3,N,H⟩;have q1:=N.get ok h1;have q2:=N.get ok h2;unfold Ea;have U:=o.lt E (cN J);have Z:=o.lt O (cN I);have ra:=lQ q2 (Kg j E J);have rb:=lQ q2 (Kg q O I);by_cases D:E=O
 subst D;have hxy:=o.inj J I;subst hxy;simp[f2,f3];exact⟨N,j,E,rfl,M,J,fun u=>by rw[H u];simp⟩
 .have Q:((E:Int) !=(O:Int))=true:=by simp;omega
  have eQ:j≠q:=fun e=>D (by subst e;rw[J] at I;cases I;rfl);by_cases gX:j<q;obtain⟨c,Kh,Po⟩:=r.set q O I Y;have rc:=lQ q1 Po;have hV:=dn.lt q ab;simp[f0,f1,f2,f3,Q,D,U,Z,ra,rb,gX,rc,-ax,aQ];exact⟨V q+j,ab,V q,j,c,E,rfl,Kh,J,ab,M,au f0,au f1,ae,ae,by first|exact N|exact N.tick,fun u=>by rw[H u,and_comm,Tree.PI dn gX]⟩
  .have ai9:q<j:=ab
   obtain⟨c,Kh,Po⟩:=r.set j E J M;have rc:=lQ q1 Po;have hV:=dn.lt j ab;simp[f0,f1,f2,f3,Q,D,U,Z,ra,rb,gX,rc,-ax,aQ];exact⟨V j+q,ab,V j,q,c,O,rfl,Kh,I,ab,Y,au f0,au f1,ae,au f3,by first|exact N|exact N.tick,fun u=>by rw[H u,Tree.PI dn ai9]⟩
def Nh{n0:Nat}{d:Nat}{mP:List (List Int)}(w:mz encI n0 h d ws mP){j:SV}{xs:List Int}(q:ws[i]?=some j)(H:mP[i]?=some xs):aD nR 1 h j.v xs:=by have a:=w.acc i j xs q H;rcases a with⟨rfl,e⟩|⟨b,I,e,E,J,_⟩;rw[e];exact⟨none,0,rfl,.inl ⟨rfl,.inl rfl⟩⟩;rw[e];refine⟨_,_,rfl,.inr ⟨b,0,_,_,_,_,rfl,E,fun k x D=>?_⟩⟩;have:=encI.Ac xs k x D;simp only[Wc,Nat.mul_one] at this;rw[Hj,Nat.mul_one,this];exact⟨rfl,rfl⟩
def nI(l:List Nat):List Int:=l.map fun x:Nat=>(x:Int)
def Ja{l:List Nat}(h:l[i]?=some x):(nI l)[i]?=some (x:Int):=by simp[nI,h]
structure TS(h0 h:az)(n:Nat)(bp:List Nat)(sJ us:List Int)(ah:List (List Int))(d3 d4 d5 d8 n8:Nat)(ws:List SV):Prop where
 g:ay aZ h0 h
 n5:h0.aw<=d5
 hO:∃s,h.tr.get d3=some (.bZ (encI.flat (nI bp)) false 1 s)
 hA:dg h d4 (encI.flat sJ)
 hU:dg h d5 (encI.flat us)
 acc:mz encI n8 h d8 ws ah
 n8:d5<n8
 ne3:d3≠d5
 ne4:d4≠d5
def TS.grow{h0 h h':az}(w:TS h0 h n bp sJ us ah d3 d4 d5 d8 n8 ws)(g:ay aZ h h'):TS h0 h' n bp sJ us ah d3 d4 d5 d8 n8 ws:=by obtain⟨s1,h1⟩:=w.hO;obtain⟨s2,h2⟩:=w.hA;obtain⟨s3,j⟩:=w.hU;have a:=w.g.ok;exact⟨w.g.trans g,w.n5,⟨s1,g.get a h1⟩,⟨s2,g.get a h2⟩,⟨s3,g.get a j⟩,w.acc.ck a g,w.n8,w.ne3,w.ne4⟩
def TS.put{h0 h:az}{n:Nat}{bp:List Nat}{sJ us:List Int}{ah:List (List Int)}{d3 d4 d5 d8 n8:Nat}{ws:List SV}(w:TS h0 h n bp sJ us ah d3 d4 d5 d8 n8 ws){x:Nat}(q:x<us.length)(v:Int):TS h0 (put h d5 x (encI.flat us) [.int .i64 v] 0) n bp sJ (us.set x v) ah d3 d4 d5 d8 n8 ws:=by obtain⟨s1,h1⟩:=w.hO;obtain⟨s2,h2⟩:=w.hA;obtain⟨s3,j⟩:=w.hU;have a:=w.g.ok;have g:ay (· =d5) h (AI.put h d5 x (encI.flat us) [.int .i64 v] 0):=aY a j;refine⟨w.g.put ⟨_,j⟩ (.inl w.n5),w.n5,⟨s1,g.get a h1 w.ne3⟩,⟨s2,g.get a h2 w.ne4⟩,⟨h.clock,by rw[aP,qU us x v q]⟩,w.acc.grow a g (fun b D e=>av w.n8),w.n8,w.ne3,w.ne4⟩
def PrI(h:az)(e:Env)(bp:List Nat)(V:Nat->Nat)(k:Nat)(ps:List Int)(m:Nat)(e':Env)(h2:az):Prop:=
 ∃(j:Nat) (a:Int),m=ps.length-j/\j<=ps.length/\bJ e' 55 j/\bJ e' 12 a/\aM [12,14,55,56,57,58,59,60,61,62,63,64,65,66,67,68,69,70,71,72,73,74] e e'/\ay aZ h h2/\Tree.BQ bp V k (ps.take j) a
def akF(r:Tree.SG bp us n V k){u:Nat}(E:u<n):(us[u]?=some (-1)/\∀i,i<k->¬bp[i]?=some u)\/∃(i y:Nat),i<k/\bp[i]?=some u/\us[u]?=some (y:Int):=by
 by_cases q:∃i,i<k/\bp[i]?=some u;obtain⟨i,a,j⟩:=q;obtain⟨y,_,D⟩:=r.set i u j a;exact .inr ⟨i,y,a,j,D⟩;refine .inl ⟨?_,fun i a h=>q ⟨i,a,h⟩⟩;by_cases w:u∈bp;obtain⟨i,a⟩:=iI w;exact r.un i u a (by rcases Gf i k with h|h;exact absurd ⟨i,h,a⟩ q;exact h);exact r.out u E w
def Zc(w:TS h0 h n bp sJ us ah d3 d4 d5 d8 n8 ws)(o:Tree.Ord bp n)(r:Tree.SG bp us n V k)(dn:Dom.Down V)(hn:n<1000000)(hla:sJ.length=n)(Kg:∀i x:Nat,bp[i]?=some x->sJ[x]?=some (i:Int)){wx:SV}{ps:List Int}(hw:ws[x]?=some wx)(ju:ah[x]?=some ps)(wg:ps.length<1000000)(hpr:∀p∈ps,0<=p/\p<n){e:Env}{QQ:bK->Env->az->Prop}(f4:bH e 4=.slice (some ⟨d4,0,none⟩) n n)(f5:bH e 5=.slice (some ⟨d5,0,none⟩) n n)(f12:bJ e 12 (-1))(f53:bH e 53=wx.v)(f54:bJ e 54 ps.length)(f55:bJ e 55 0)(C:∀e' Y M,ay aZ h Y->aM [12,14,55,56,57,58,59,60,61,62,63,64,65,66,67,68,69,70,71,72,73,74] e e'->bJ e' 12 M->Tree.BQ bp V k ps M->QQ (.exit 6) e' Y):aO FF (.loop uF) e h QQ:=by
 have ok:=w.g.ok;have sR:=Nh w.acc hw ju;have Pu:=aD.len sR;refine aO.loop (PrI h e bp V k ps) ?_ (n:=ps.length) ⟨0,-1,rfl,ab,f55,f12,aM.refl _ _,.refl ok,aj (Tree.BQ.nil bp V k)⟩;rintro m e' h2⟨j,M,rfl,hj,E,Z,K,J,H⟩;have w2:=w.grow J;have q4:=K.at f4;have q5:=K.at f5;have q:=K.at f53;have Zg:=K.at f54;unfold uF;by_cases U:j<ps.length
 .have Q:ps[j]?=some ps[j]:=g_ U;have hm:=Be U;generalize ps[j]=p at Q hm;obtain⟨hp0,Ws⟩:=hpr p hm;obtain⟨u,rfl⟩:∃u:Nat,p=u:=⟨p.toNat,ab⟩;have Pt:u<n:=ab
  obtain⟨bT,off,c,Bh,_,_,rfl,_,cZ⟩:=aD.later ok sR Q;have r0:=cZ h2 J 0 1 ag;simp[-ax] at r0;have wj:=cg ((j:Int)+1) ab ab;obtain⟨s5,hU⟩:=w2.hU;obtain⟨s4,hA⟩:=w2.hA;have ht:ps.take (j+1)=ps.take j++[(u:Int)]:=by rw[lg,Q];rfl
  simp at q;rw[Bh,Pu] at q;rcases akF r Pt with⟨D,I⟩|⟨i,y,O,D,I⟩
  .have ru:=lQ hU D;simp[q4,q5,q,Zg,E,U,r0,Pt,ru,-ax,wj];refine⟨ps.length-(j+1),ab,j+1,M,rfl,ab,ae,au Z,?_,J,?_⟩
   .exact aq
   rw[ht];exact H.skip (fun i O ⟨x,Q,e⟩=>I i O (by rw[Q];congr 1;omega))
  .have ru:=lQ hU I;have u9:¬(y:Int)<0:=ab
   rcases(show M= -1\/∃a:Nat,M=a by
    rcases H with⟨e,_⟩|⟨_,a,_,_,e,_⟩;exact .inl e;exact .inr ⟨a,e⟩) with rfl|⟨a,rfl⟩
   .simp[q4,q5,q,Zg,E,Z,U,r0,Pt,ru,-ax,wj,u9];refine⟨ps.length-(j+1),ab,j+1,u,rfl,ab,ae,ae,?_,J,?_⟩
    .exact aq
    rw[ht];exact H.one o O D rfl
   .have ha0:¬(a:Int)<0:=ab
    obtain⟨za,N,hzk⟩:∃za,bp[za]?=some a/\za<k:=by
     rcases H with⟨e,_⟩|⟨z,a',hz,Wv,e,_⟩;omega
     .have:a'=a:=ab
      subst this;exact⟨z,Wv,hz⟩
    simp[q4,q5,q,Zg,E,Z,U,r0,Pt,ru,-ax,u9,ha0];refine bm.call (V:=fun v Y=>ay aZ h2 Y/\∃z w:Nat,v=.int .i64 w/\z<k/\bp[z]?=some w/\∀u,Dom.ee V z u↔(Dom.ee V za u/\Dom.ee V i u)) (aj (YA J.ok o r dn hU hA hla Kg N D hzk O)) ?_;rintro _ h3⟨g3,z,v,rfl,hz,Wv,hz3⟩;simp[wj,E];refine⟨ps.length-(j+1),ab,j+1,v,rfl,ab,ae,ae,?_,J.trans g3,?_⟩
    .exact aq
    rw[ht];refine H.meet o D O rfl (fun za' h1 _=>?_);rw[o.inj h1 N];exact⟨z,v,hz,Wv,rfl,hz3⟩
 .have:j=ps.length:=ab
  subst this;rw[jT] at H;simp[Zg,E];exact C _ _ M J (K.set) (au Z) H
end Go.Proofs.YtdhnndleffachaaGreatDoor
