/- Parts of the proof. -/
import Derived.Test.YtdhnndleffachaaGreatDoorP04
set_option linter.all false
set_option maxHeartbeats 1000000
namespace Go.Proofs.YtdhnndleffachaaGreatDoor
open Go.AI
variable{W:SV}{h:az}{l:List (Int×(Bool×Int))}
def pQ(bs:List GB)(b:Int)(row:List (Bool×Int)):List (Int×(Bool×Int)):=(aX bs b).zip row
def EdI(h1:az)(X:Nat)(W:SV)(ah:List Int)(row:List (Bool×Int))(m:Nat)(e:Env)(h':az):Prop:=
 ∃(j:Nat) (L:SV),m=ah.length-j/\j<=ah.length/\cm e 5 X/\bH e 7=W.v/\bH e 8=L.v/\bJ e 9 j/\ay aZ h1 h'/\bu iS h1.aw h' L.v ((ah.zip row).take j)
def Ih(Y:cr h){name:ByteArray}{p r dst:Int}{B A:SV}{bs:List GB}{row:List (Bool×Int)}(hB:qg h B bs)(hA:aD vR 2 h A.v row)(hl:bs.length<100000)(ht:∀x∈bs,x.to.length<1000000)(b:Int)(hr:(aX bs b).length<=row.length):bc FF 91 [.agg ⟨aC name p r B⟩,.int .i64 b,.agg ⟨[.int .i64 dst,A.v]⟩] h (fun v h'=>ay aZ h h'/\∃L:SV,v=L.v/\bu iS h.aw h' L.v (pQ bs b row)):=by
 have ni:=aD.len hA;have n1:¬h.aw=h.aw+1:=ab
 refine bc.of AP ?_;unfold rZ;simp[aC,n1];refine bm.cut (fun h1=>ay aZ h h1/\dg h1 (h.aw+1) [.int .i64 dst,A.v]) ⟨((ay.refl Y).new _ _).new _ _,0,ae⟩ ?_;rintro h1⟨D,sX,hX⟩;refine bm.call (V:=fun v h'=>ay aZ h1 h'/\∃L:SV,v=L.v/\bu encI h1.aw h' L.v (aX bs b)) (by simpa [aC] using Gr D.ok (name:=name) (p:=p) (r:=r) (hB.mono Y D) hl ht b) ?_;rintro _ h2⟨u,W,rfl,aW⟩;have jC:=D.trans u;have sW:=aW.sl;have eC:=u.get D.ok hX;have zF:W.l=(aX bs b).length:=by obtain⟨a,cap,e,_⟩:=id sW;simp at e;exact e.2.1
 have x5:=y9 bs bs.length b;change (aX bs b).length<=bs.length at x5;simp;refine aO.loop (EdI h2 (h.aw+1) W (aX bs b) row) ?_ (n:=(aX bs b).length) ⟨0,cK,rfl,ab,ae,ae,by simp[cK],ae,.refl u.ok,.inl ⟨rfl,rfl⟩⟩;rintro m e h'⟨j,L,rfl,hj,f5,o,f8,f9,g,d⟩;have H:=g.ok;have U:=jC.trans g;have s:=g.get u.ok eC;simp at s;rw[ni] at s;unfold pE;by_cases bk:j<(aX bs b).length
 .have wj:=cg ((j:Int)+1) ab ab;obtain⟨x,hx⟩:=aV (aX bs b) j bk;obtain⟨v,hv⟩:=aV row j;obtain⟨bW,YP,Xr,Ey,_,⟨cW,roW,oW,stW,Z⟩,C⟩:=(sW.ck u.ok g).read hx;obtain⟨bA,offA,cA,Bf,_,_,rfl,oA,I⟩:=aD.later Y hA hv;have rW:=C 0 1 ag;have rA:=I h' U 0 2 ag;simp[-ax] at rW rA Ey;simp at o;rw[Ey.1] at o;rw[Bf] at s;have hjr:j<row.length:=ab
  have oX:=H.cn s;have J:=H.cn Z;have M:=U.cn oA;simp[f5,o,f8,f9,zF,bk,rW,rA,s,aF s,hjr,oX,J,M,aQ,-ax];have G:=bC H;have nt:(tick h').aw=h'.aw:=rfl;have K:=d.grow H G ai;rw[<-nt];generalize tick h'=h3 at*;have Q:=aN G.ok (iS.enc (x,v)) 0;have gK:=K.grow G.ok Q ai;have zK:bj iS (aK h3 (iS.enc (x,v)) 0) (.slice (some ⟨h3.aw,0,none⟩) 1 1) [(x,v)]:=dz (bz _ _ _);have ln:=g.aw;have n2:(aK h3 (iS.enc (x,v)) 0).aw=h3.aw+1:=rfl;have Ki:(((aX bs b).zip row).take j).length<=j:=by rw[List.length_take];omega
  obtain⟨v',h5,ha,fM,g5,_⟩:=fx (bytes:=24) Q.ok (z:=[.int .i64 0,.bool false,.int .i64 0]) rfl gK zK ab ag ab;obtain⟨L',rfl⟩:=bu.C5 fM;refine mn (aj ha) ?_;simp[f9,wj];refine⟨(aX bs b).length-(j+1),ab,j+1,L',rfl,bk,au f5,by simp[o,Ey],ae,ae,((g.trans G).trans Q).trans' g5 ai (fun y hy e=>av (d.of e)),?_⟩;have hz:((aX bs b).zip row)[j]?=some (x,v):=by rw[List.getElem?_zip_eq_some];exact⟨hx,hv⟩
  rw[lg,hz];exact fM
 .have:j=(aX bs b).length:=ab
  subst this;rw[pg (by simp;omega)] at d;simp at o;rw[zF] at o;simp[o,f8,f9];exact⟨U,L,ae,bu.low (E:=iS) d jC.aw⟩
def eS(l:List (Int×(Bool×Int)))(b:Int):Option (Bool×Int):=(l.find? fun x=>x.1==b).map (·.2)
def iC(l:List (Int×(Bool×Int)))(n:Nat):List (Bool×Int):=(List.range n).filterMap fun b:Nat=>eS l b
def JL(l:List (Int×(Bool×Int)))(n:Nat):iC l (n+1)=iC l n++(eS l n).toList:=by unfold iC;rw[List.range_succ,List.filterMap_append];cases h:eS l n<;>simp[h]
def Fz(l:List (Int×(Bool×Int)))(n:Nat):(iC l n).length<=n:=by unfold iC;exact sx (List.length_filterMap_le _ _) ae
def asO(h1:az)(W:SV)(l:List (Int×(Bool×Int)))(L:SV)(k b:Nat)(m:Nat)(e:Env)(h':az):Prop:=
 ∃j:Nat,m=l.length-j/\j<=l.length/\bH e 0=W.v/\bJ e 1 k/\bH e 5=L.v/\bJ e 6 b/\bJ e 7 j/\h'=h1/\∀i x,i<j->l[i]?=some x->x.1≠b
def Qw{b:Int}(h:∀(i:Nat)(x:Int×(Bool×Int)),l[i]?=some x->x.1≠b):eS l b=none:=by unfold eS;rw[List.find?_eq_none.2 (fun x m=>by obtain⟨i,d⟩:=iI m;simpa using h i x d)];rfl
def abq:∀ {l:List (Int×(Bool×Int))} {b:Int} {j:Nat} {x:Int×(Bool×Int)},l[j]?=some x->x.1=b->(∀i y,i<j->l[i]?=some y->y.1≠b)->eS l b=some x.2
 |[],_,_,_,h,_,_=>by simp at h
 |y::l,b,0,x,h,e,_=>by simp at h;subst h;simp[eS,e]
 |y::l,b,j+1,x,h,e,d=>by
  have h0:=d 0 y ab rfl;have:=abq (l:=l) (b:=b) (j:=j) (aj h) e (fun i z s o=>d (i+1) z ab (aj o));unfold eS at this⊢;have m:(y.1==b)=false:=aj h0
  rw[List.find?_cons,m];exact this
def Zz{h1:az}(ok:cr h1){W L:SV}{vs:List (Bool×Int)}{n0 k b:Nat}(sW:bj iS h1 W.v l)(hl:l.length<1000000)(hn:n0<=h1.aw)(H:bu cC n0 h1 L.v vs)(xg:vs.length<1000000){e:Env}{QQ:bK->Env->az->Prop}(f0:bH e 0=W.v)(f1:bJ e 1 k)(f5:bH e 5=L.v)(f6:bJ e 6 b)(f7:bJ e 7 0)(C:∀D h' (L':SV),bH D 0=W.v->bJ D 1 k->bH D 5=L'.v->bJ D 6 b->ay (bt L.v) h1 h'->bu cC n0 h' L'.v (vs++(eS l b).toList)->QQ (.exit 2) D h'):aO FF (.loop lM) e h1 QQ:=by
 have E:W.l=l.length:=by obtain⟨a,cap,e,_⟩:=id sW;simp at e;exact e.2.1
 refine aO.loop (asO h1 W l L k b) ?_ (n:=l.length) ⟨0,rfl,ab,f0,f1,f5,f6,f7,rfl,fun i x hi=>ab⟩;rintro m D h'⟨j,rfl,hj,d,J,q5,u,Y,rfl,s⟩;unfold lM;by_cases U:j<l.length
 .have wj:=cg ((j:Int)+1) ab ab;obtain⟨x,G⟩:=aV l j U;obtain⟨bW,YP,Xr,I,_,⟨cW,roW,oW,stW,hWb⟩,o⟩:=sW.read G;have Z:=o 0 1 ag;have r1:=o 1 2 ag;simp[-ax] at Z r1 I;simp at d;rw[I.1,E] at d;by_cases Q:x.1=b
  .have M:=abq G Q s;simp[d,q5,u,Y,U,Z,r1,Q,-ax];have K:=aN ok (cC.enc x.2) 0;have gK:=H.grow ok K ai;have zK:bj cC (aK h' (cC.enc x.2) 0) (.slice (some ⟨h'.aw,0,none⟩) 1 1) [x.2]:=dz (bz _ _ _);have n2:(aK h' (cC.enc x.2) 0).aw=h'.aw+1:=rfl;obtain⟨v',h5,ha,V,g5,_⟩:=fx (bytes:=16) K.ok (z:=[.bool false,.int .i64 0]) rfl gK zK ab ag ab;obtain⟨L',rfl⟩:=bu.C5 V;refine cR (aj ha) ?_;simp
   first
    |(rw[Jp _ _ _ _ _ ag];simp;exact C _ _ L' (by simp[d,I,E]) (au J) ae (au u) (K.ck.trans g5) (by rw[M];exact V))
    |exact C _ _ L' (by simp[d,I,E]) (au J) ae (au u) (K.ck.trans g5) (by rw[M];exact V)
  .have e2:(x.1==(b:Int))=false:=aj Q
   simp[d,u,Y,U,Z,e2,wj,-ax];refine⟨l.length-(j+1),ab,j+1,rfl,U,by simp[d,I,E],au J,au q5,au u,ae,rfl,fun i y hi hy=>?_⟩;by_cases e3:i=j;subst e3;rw[G] at hy;cases hy;exact Q;exact s i y ab hy
 .have:j=l.length:=ab
  subst this;have M:=Qw (l:=l) (b:=b) (fun i x G=>s i x (di.mp G).1 G);simp at d;rw[E] at d;simp[d,Y];exact C _ _ L (by simp[d,E]) (au J) (au q5) (au u) (.refl ok) (by rw[M];simpa using H)
def asP(h1:az)(W:SV)(l:List (Int×(Bool×Int)))(k:Nat)(m:Nat)(e:Env)(h':az):Prop:=
 ∃(b:Nat) (L:SV),m=k-b/\b<=k/\bH e 0=W.v/\bJ e 1 k/\bH e 5=L.v/\bJ e 6 b/\ay aZ h1 h'/\bu cC h1.aw h' L.v (iC l b)
def MR(C:cr h)(M:bj iS h W.v l)(U:l.length<1000000)(k:Nat)(hk:k<100000):bc FF 93 [W.v,.int .i64 k] h (fun v h'=>ay aZ h h'/\∃L:SV,v=L.v/\bu cC h.aw h' L.v (iC l k)):=by
 refine bc.of DB ?_;unfold vo;simp;refine aO.loop (asP h W l k) ?_ (n:=k) ⟨0,cK,rfl,ab,ae,ae,by simp[cK],ae,.refl C,.inl ⟨rfl,rfl⟩⟩;rintro m e h'⟨b,L,rfl,hb,G,s,u,o,g,d⟩;have Z:=g.ok;unfold sZ;by_cases D:b<k
 have K:=cg ((b:Int)+1) ab ab;have yb:=Fz l b;simp[s,o,D];refine Zz Z (M.ck C g) U g.aw d ab (k:=k) (b:=b) (au G) (au s) (au u) (au o) ae ?_;intro e2 h2 Y V Q E H J I;simp[H,K];refine⟨k-(b+1),ab,b+1,Y,rfl,D,au V,au Q,au E,ae,g.trans' J ai (fun y hy e=>av (d.of e)),by rw[JL];exact I⟩
 .have:b=k:=ab
  subst this;simp[s,u,o];exact⟨g,L,ae,d⟩
end Go.Proofs.YtdhnndleffachaaGreatDoor
namespace Go.Proofs.YtdhnndleffachaaGreatDoor
open Go.AI Go.AI.Dfs
variable{B:SV}{bs:List GB}{bytes n0:Nat}{h:az}{w:Value}{z:List Value}{α:Type}
def tA{α:Type}(E:Enc α)(n0:Nat)(h:az)(v:Value)(xs:List α):Prop:=bu E n0 h v xs\/(xs=[]/\∃b s,v=.slice (some ⟨b,0,none⟩) 0 0/\h.tr.get b=some (.bZ [] false 0 s)/\n0<=b)
def tc{E:Enc α}(o:cr h){v w:Value}{xs ys:List α}(m:z.length=E.sz)(a:tA E n0 h v xs)(C:bj E h w ys)(u:xs.length+ys.length<1000000)(I:bytes<=1000)(J:n0<=h.aw):∃d h',fS h z bytes false v w=some (d,h')/\tA E n0 h' d (xs++ys)/\(ys≠[]->bu E n0 h' d (xs++ys))/\ay (bt v) h h':=by
 rcases a with a|⟨rfl,b,s,rfl,H,Q⟩;obtain⟨d,h',e,G,g⟩:=qt o m a C u I J;exact⟨d,h',e,.inl G,fun _=>G,g⟩
 .unfold fS;rw[yj m C];dsimp only;have D:=E.pos;have U:E.sz≠0:=ab
  cases ys with
  |nil=>
   refine⟨.slice (some ⟨b,0,none⟩) 0 0,h,?_,.inr ⟨rfl,b,s,rfl,H,Q⟩,fun e=>absurd rfl e,.refl o⟩;simp[dy,m,D]
  |cons y ys=>
   have M:roomy (ys.length+1)=true:=by simp[roomy];simp at u;omega
   have K:roomy ((ys.length+1)*bytes)=true:=by have:(ys.length+1)*bytes<=1000000*1000:=Nat.mul_le_mul (by simp at u;omega) I;simp[roomy];omega
   have key:bu E n0 (aK h (E.flat (y::ys)) E.sz) (.slice (some ⟨h.aw,0,none⟩) (ys.length+1) (ys.length+1)) ([]++y::ys):=.inr ⟨h.aw,0,ae,ae,ae,J⟩;refine⟨.slice (some ⟨h.aw,0,none⟩) (ys.length+1) (ys.length+1),aK h (E.flat (y::ys)) E.sz,?_,.inl key,fun _=>key,(aN o _ _).ck⟩;simp[dy,m,D,M,K,H]
def PF{E:Enc α}(d:n0<=h.aw):tA E n0 (aK h [] 0) (.slice (some ⟨h.aw,0,none⟩) 0 0) []:=.inr ⟨rfl,h.aw,0,rfl,bz _ _ _,d⟩
def Lu{E:Enc α}(J:cr h){xs:List α}{y:α}(I:z.length=E.sz)(V:bj E h w xs)(hl:xs.length<100000)(K:bytes<=1000):∃v1 h1 v2 m,fS (aK h [] 0) z bytes false (.slice (some ⟨h.aw,0,none⟩) 0 0) w=some (v1,h1)/\ay aZ h h1/\fS (aK h1 (E.enc y) 0) z bytes false v1 (.slice (some ⟨h1.aw,0,none⟩) 1 1)=some (v2,m)/\ay aZ h m/\bu E h.aw m v2 (xs++[y]):=by
 have D:=aN J [] 0;obtain⟨v1,h1,e1,a1,_,Q⟩:=tc (bytes:=bytes) D.ok I (PF (fh _)) (V.ck J D) (by simp;omega) K D.aw;have d:ay aZ h h1:=D.trans' Q ai (fun x Z e=>by obtain⟨_,_,_,e⟩:=e;cases e;omega);have C:=aN d.ok (E.enc y) 0;have M:tA E h.aw (aK h1 (E.enc y) 0) v1 ([]++xs):=by rcases a1 with a|⟨e,b,s,u,o,G⟩;exact .inl (a.grow d.ok C ai);exact .inr ⟨e,b,s,u,C.get d.ok o,G⟩
 have H:∀b,bt v1 b->h.aw<=b:=fun b o=>by rcases M with a|⟨_,b',s,u,_,G⟩;exact a.of o;rw[u] at o;obtain⟨_,_,_,e⟩:=o;cases e;exact G
 obtain⟨v2,m,u,_,U,Y⟩:=tc (bytes:=bytes) C.ok I M (dz (bz _ _ _)) (by simp;omega) K (sx d.aw C.aw);refine⟨v1,h1,v2,m,e1,d,u,(d.trans C).trans' Y ai (fun x Z e=>av (H x e)),?_⟩;simpa using U ae
def XC{tos:List (List Nat)}{k:Nat}{l:List Nat}{i t:Nat}(h:l[i]?=some t)(s:DS):foldM tos k (l.take (i+1)) s=(if(foldM tos k (l.take i) s).seen[t]?=some true then foldM tos k (l.take i) s else visitM tos k t (foldM tos k (l.take i) s)):=by unfold foldM;rw[lg,h,List.foldl_append];rfl
def VP(n:Nat)(sl:List Int)(s:DS):Prop:=∀x:Nat,x<n->(s.seen[x]?=some true↔(x:Int)∈sl)
def RWQ(bs:List GB)(h:az)(sl:List Int)(s m:DS)(v:Value)(h':az):Prop:=
 ay aZ h h'/\∃(S L:SV) (d:List Int),v=.tuple #[S.v,L.v]/\bj encI h' S.v d/\bj encI h' L.v (nI m.left)/\VP bs.length d m/\d.length+cU m<=sl.length+cU s
def asB(h0:az)(name:ByteArray)(p r:Int)(B:SV)(bs:List GB)(k:Nat):Prop:=
 ∀(b:Nat)(h:az)(S L:SV)(sl:List Int)(s:DS),cr h->ay aZ h0 h->bj encI h S.v sl->bj encI h L.v (nI s.left)->VP bs.length sl s->sl.length+cU s<=bs.length->s.left.length+cU s<=bs.length->s.seen.length=bs.length->b<bs.length->¬s.seen[b]?=some true->cU s<=k->bc FF 94 [.agg ⟨aC name p r B⟩,.int .i64 b,S.v,L.v] h (RWQ bs h sl s (visitM (gE bs) k b s))
def RWI(h1:az)(F:Nat)(T:SV)(b k:Nat)(bs:List GB)(ts:List Nat)(o:List Int)(d:DS)(m:Nat)(e:Env)(h':az):Prop:=
 ∃(i:Nat) (S L:SV) (sl:List Int),m=ts.length-i/\i<=ts.length/\bJ e 1 b/\bH e 2=S.v/\bH e 3=L.v/\cm e 4 F/\bH e 10=T.v/\bJ e 11 ((ts.length:Int)-1-i)/\ay aZ h1 h'/\bj encI h' S.v sl/\bj encI h' L.v (nI (foldM (gE bs) k (ts.take i) d).left)/\VP bs.length sl (foldM (gE bs) k (ts.take i) d)/\sl.length+cU (foldM (gE bs) k (ts.take i) d)<=o.length+cU d
def Vk{h0:az}(dt:cr h0){name:ByteArray}{p r:Int}(hB:qg h0 B bs)(E:jB bs):∀k,asB h0 name p r B bs k:=by
 have ht:=vM E;have hl:=E.len;intro k;induction k with
 |zero=>
  intro b h S L sl s ok g sS sL W c1 c2 hn hb hs hk;exfalso;have:=mJ (s:=s) (b:=b) ab hs;omega
 |succ k IH=>
  intro b h S L sl s ok g0 sS sL W c1 c2 hn hb hs hk;have hf:=mJ (s:=s) (b:=b) ab hs;have dT:=aD.len hB;obtain⟨x,hx⟩:=aV bs b hb;have Kl:=cN hx;obtain⟨bb,off,c,fp,_,_,⟨P,LL,T,rfl,sP,sLL,sT⟩,_,cZ⟩:=aD.later dt hB hx;have nC:row (gE bs) b=x.to.map Int.toNat:=by unfold row gE;rw[js,hx];rfl
  obtain⟨d,Al⟩:∃d,d=(row (gE bs) b).reverse:=⟨_,rfl⟩;have CD:d.length=x.to.length:=by rw[Al,nC];simp
  have aoR:∀t∈d,t<bs.length:=fun t h=>ht b t (by rw[Al] at h;exact List.mem_reverse.1 h);have h2:=E.two x Kl;have u5:=aD.len sT;obtain⟨o,H⟩:∃o,o=(⟨s.seen.set b true,s.left⟩:DS):=⟨_,rfl⟩;have wa:cU o+1=cU s:=by rw[H];exact hf
  have hn1:o.seen.length=bs.length:=by rw[H];simpa using hn
  have QG:o.left=s.left:=by rw[H]
  have vis:visitM (gE bs) (k+1) b s=⟨(foldM (gE bs) k d o).seen,(foldM (gE bs) k d o).left++[b]⟩:=by rw[gJ,Al,H]
  rw[vis];refine bc.of Cj ?_;unfold tQ;have g1:=aN ok (aC name p r B) 0;have n1:(aK h (aC name p r B) 0).aw=h.aw+1:=rfl;have yD:(aK h (aC name p r B) 0).tr.get h.aw=some (.bZ (aC name p r B) false 0 0):=bz _ _ _;obtain⟨v1,xZ,v2,h3,e1,gA,e2,gB,aS⟩:=Lu (bytes:=8) (y:=(b:Int)) g1.ok (z:=[.int .i64 0]) rfl (sS.ck ok g1) ab ag;rw[n1] at e1;obtain⟨S1,rfl⟩:=bu.C5 aS;have uT:=gB.get g1.ok yD;have Z:=g1.trans gB;have ef:=g0.trans Z;have J:=uT;simp[aC] at J;rw[fp,dT] at J;have rT:=cZ h3 ef 5 1 ag;simp[-ax] at rT;have wl:IntKind.i64.wrap ((T.l:Int)-1)=(d.length:Int)-1-(0:Nat):=by rw[cg _ ab ab];omega
  have sL3:=sL.ck ok Z;simp[aC];refine cR (by simpa [aC] using e1) ?_;simp;refine cR (aj e2) ?_;simp[J,aF J,hb,rT,wl,-ax];have SL1:VP bs.length (sl++[(b:Int)]) o:=fun y hy=>by rw[H];dsimp only;rw[fL,jS,List.mem_singleton];by_cases e:b=y;subst e;simp[hn,hb];rw[bU e,W y hy];constructor;exact fun h=>.inl h;rintro(h|h);exact h;omega
  refine aO.loop (RWI h3 h.aw T b k bs d (sl++[(b:Int)]) o) ?_ (n:=d.length) ⟨0,S1,L,_,rfl,ab,ae,ae,ae,ae,ae,ae,.refl gB.ok,aS.sl,by rw[List.take_zero,wX,QG];exact sL3,by rw[List.take_zero,wX];exact SL1,by rw[List.take_zero,wX];exact fh _⟩;rintro m e' h'⟨i,S2,L2,C,rfl,hi,f1,f2,f3,f4,G,D,g,I,K,W2,c3⟩;have bS:=g.ok;have gg:=ef.trans g;have vl:=Iq (FH (gE bs) k) (d.take i) o;have vc:=ud (vP ht k) (d.take i) o hn1 (fun t h=>aoR t (XK h));have vf:=vv (yx (gE bs) k) (d.take i) o;simp at c3;unfold qO;by_cases gh:i<d.length
  .obtain⟨t,ma⟩:=aV d i gh;obtain⟨j,hj⟩:∃j:Nat,j+1+i=d.length:=⟨d.length-1-i,ab⟩;have ej:(d.length:Int)-1-i=(j:Nat):=ab
   rw[ej] at D;have Y:j<x.to.length:=ab
   obtain⟨u,hu⟩:=aV x.to j Y;have htu:t=u.toNat:=by rw[Al,nC,List.getElem?_reverse (by rw[KM];omega),js] at ma;rw[KM,show x.to.length-1-i=j by omega,hu] at ma;simpa using ma.symm
   have hu0:=(E.to x Kl u (cN hu)).1;have Q:t<bs.length:=aoR t (cN ma);have etu:u=(t:Int):=ab
   obtain⟨bT,ajW,cT,Bh,_,_,rfl,oT,Of⟩:=aD.later dt sT hu;have U:=Of h' gg 0 1 ag;simp[-ax] at U G;rw[Bh,u5] at G;have hj0:(0:Int)<=(j:Nat):=ab
   have wj:IntKind.i64.wrap ((j:Int)-1)=(d.length:Int)-1-(i+1:Nat):=by rw[cg _ ab ab];omega
   have M:=XC (tos:=gE bs) (k:=k) ma o;subst etu;simp[f2,G,D,Y,U,-ax];refine bm.call (V:=fun v h2=>h2=h'/\v=.bool (decide ((t:Int)∈C))) (by simpa [f2] using IA I ab (t:Int)) ?_;rintro _ h2⟨eh,rfl⟩;rw[eh];by_cases hm:(t:Int)∈C;have Ho:=(W2 t Q).2 hm;rw[bM Ho] at M;simp[hm,D,wj];exact⟨d.length-(i+1),ab,i+1,S2,L2,C,rfl,gh,au f1,au f2,au f3,au f4,by simp[G,Bh,u5],ae,g,I,by rw[M];exact K,by rw[M];exact W2,by rw[M];simpa using c3⟩;have Ho:¬(foldM (gE bs) k (d.take i) o).seen[t]?=some true:=fun e=>hm ((W2 t Q).1 e);rw[bU Ho] at M;have BH:=g.get gB.ok uT;have XP:=BH;simp[aC] at XP;have oF:=bS.cn BH;have oT':=gg.cn oT;simp[hm,f2,f3,f4,G,D,Y,U,XP,aF XP,oF,oT',aQ,-ax];have gt:=bC bS;refine cu.call (V:=RWQ bs (tick h') C (foldM (gE bs) k (d.take i) o) (visitM (gE bs) k t (foldM (gE bs) k (d.take i) o))) (by simpa [aC,fp,dT] using IH t (tick h') S2 L2 C _ gt.ok (gg.trans gt) (I.ck bS gt) (K.ck bS gt) W2 ab (by rw[QG] at vc;omega) (by rw[vl];exact hn1) Q Ho ab) ?_;rintro _ h4⟨g4,S4,L4,sl4,rfl,sS4,sL4,W4,c4⟩;simp[D,wj];exact⟨d.length-(i+1),ab,i+1,S4,L4,sl4,rfl,gh,au f1,ae,ae,au f4,by simp[G,Bh,u5],ae,(g.trans gt).trans g4,sS4,by rw[M];exact sL4,by rw[M];exact W4,by rw[M];simp;omega⟩
  .have:i=d.length:=ab
   subst this;rw[jT] at K W2 c3 vc vf vl;have E8:¬(d.length:Int)<=(d.length:Int)-1:=ab
   simp[f2,f3,D,E8];have axN:bj encI h' (.slice L2.a L2.l L2.c) (nI (foldM (gE bs) k d o).left):=K;obtain⟨v5,h5,v6,h6,e5,gC,e6,gD,aL⟩:=Lu (bytes:=8) (y:=(b:Int)) bS (z:=[.int .i64 0]) rfl axN (by simp[nI];rw[QG] at vc;omega) ag;obtain⟨L6,rfl⟩:=bu.C5 aL;refine cR (aj e5) ?_;simp[f1];refine cR (aj e6) ?_;simp;exact⟨(Z.trans g).trans gD,S2,L6,C,ae,I.ck bS gD,by simpa [nI] using aL.sl,fun y hy=>W2 y hy,by show C.length+cU (foldM (gE bs) k d o)<=_;omega⟩
def ROI(h1:az)(W:SV)(xs:List Int)(m:Nat)(e:Env)(h':az):Prop:=
 ∃(i:Nat) (L:SV),m=xs.length-i/\i<=xs.length/\bH e 4=W.v/\bH e 5=L.v/\bJ e 6 ((xs.length:Int)-1-i)/\ay aZ h1 h'/\bu encI h1.aw h' L.v (xs.reverse.take i)
def Gv(ok:cr h){name:ByteArray}{p r:Int}(hB:qg h B bs)(E:jB bs)(h0:0<bs.length):bc FF 39 [.agg ⟨aC name p r B⟩] h (fun v h'=>ay aZ h h'/\∃L:SV,v=L.v/\bu encI h.aw h' L.v (nI (dP bs))):=by
 have hl:=E.len;have G:cU ⟨List.replicate bs.length false,[]⟩=bs.length:=Cw _;refine bc.of AT ?_;unfold r_;simp[aC];have s:=aN ok (aC name p r B) 0;refine bm.cut (fun h1=>ay aZ h h1) (by simpa [aC] using s) ?_;intro h1 s;refine bm.call (V:=RWQ bs h1 [] ⟨List.replicate bs.length false,[]⟩ (visitM (gE bs) bs.length 0 ⟨List.replicate bs.length false,[]⟩)) (by simpa [aC,cK] using Vk ok hB E bs.length 0 h1 cK cK [] ⟨List.replicate bs.length false,[]⟩ s.ok s (bj.nil _ _ _) (bj.nil _ _ _) (fun x hx=>by simp[SI]) (by rw[G];simp) (by rw[G];simp) ae h0 (by simp[SI]) (by rw[G];exact fh _)) ?_;rintro _ h2⟨K,S,L,sl,rfl,_,M,_,_⟩;have jC:=s.trans K;obtain⟨xs,Q⟩:∃xs,xs=nI (visitM (gE bs) bs.length 0 ⟨List.replicate bs.length false,[]⟩).left:=⟨_,rfl⟩;have J:nI (dP bs)=xs.reverse:=by rw[Q];unfold dP Dfs.sK nI;rw[List.map_reverse]
 rw[<-Q] at M;have xG:xs.length<=bs.length:=by have:=vP (vM E) bs.length 0 ⟨List.replicate bs.length false,[]⟩ ae h0 (by simp[SI]);rw[G] at this;rw[Q];simp[nI] at this⊢;omega
 have D:L.l=xs.length:=by obtain⟨a,cap,e,_⟩:=id M;simp at e;exact e.2.1
 have wl:IntKind.i64.wrap ((xs.length:Int)-1)=(xs.length:Int)-1-(0:Nat):=by rw[cg _ ab ab];omega
 simp[D,wl];refine aO.loop (ROI h2 L xs) ?_ (n:=xs.length) ⟨0,cK,rfl,ab,au D,by simp[cK],ae,.refl K.ok,.inl ⟨ae,rfl⟩⟩;rintro m e h'⟨i,A,rfl,hi,I,f5,H,g,d⟩;have bS:=g.ok;unfold pF;by_cases gh:i<xs.length
 .obtain⟨j,hj⟩:∃j:Nat,j+1+i=xs.length:=⟨xs.length-1-i,ab⟩;have ej:(xs.length:Int)-1-i=(j:Nat):=ab
  rw[ej] at H;have C:j<xs.length:=ab
  obtain⟨u,hu⟩:=aV xs j C;obtain⟨bW,YP,Xr,Y,_,⟨cW,roW,oW,stW,hWb⟩,o⟩:=(M.ck K.ok g).read hu;have r0:=o 0 1 ag;simp[-ax] at r0 Y;simp at I;rw[Y.1,D] at I;have hj0:(0:Int)<=(j:Nat):=ab
  have wj:IntKind.i64.wrap ((j:Int)-1)=(xs.length:Int)-1-(i+1:Nat):=by rw[cg _ ab ab];omega
  simp[I,f5,H,C,r0,-ax];have U:=aN bS [.int .i64 u] 0;have gK:=d.grow bS U ai;have zK:bj encI (aK h' [.int .i64 u] 0) (.slice (some ⟨h'.aw,0,none⟩) 1 1) [u]:=dz (E:=encI) (x:=u) (bz _ _ _);have ln:=g.aw;have n2:(aK h' [.int .i64 u] 0).aw=h'.aw+1:=rfl;obtain⟨v',h5,ha,Z,g5,_⟩:=fx (bytes:=8) U.ok (z:=[.int .i64 0]) rfl gK zK (by rw[List.length_take];omega) ag ab;obtain⟨A',rfl⟩:=bu.C5 Z;refine cR (aj ha) ?_;simp[H,wj];have hr:xs.reverse[i]?=some u:=by rw[List.getElem?_reverse gh,show xs.length-1-i=j by omega,hu]
  refine⟨xs.length-(i+1),ab,i+1,A',rfl,gh,by simp[I,Y,D],ae,ae,(g.trans U).trans' g5 ai (fun y hy e=>av (d.of e)),?_⟩;rw[lg,hr];exact Z
 .have:i=xs.length:=ab
  subst this;have E8:¬(xs.length:Int)<=(xs.length:Int)-1:=ab
  simp[f5,H,E8];rw[pg ae] at d;exact⟨jC.trans g,A,ae,by rw[J];exact bu.low (E:=encI) d jC.aw⟩
end Go.Proofs.YtdhnndleffachaaGreatDoor
namespace Go.Proofs.YtdhnndleffachaaGreatDoor
open Go.AI
variable{A L O P W wk:SV}{F N R X aB c d8 dA i j k n n0 n8 nb sA sF sX:Nat}{QQ:bK->Env->az->Prop}{a cn now p rg x:Int}{ah:List (List Int)}{ats l l0 pk to xs:List Int}{bp:List Nat}{bs:List GB}{cj row vs:List (Bool×Int)}{cs:List Value}{e:Env}{f f':Int->Int}{gZ ys:List YB}{h h' h0 h1:az}{name:ByteArray}{q:GP×SV}{rb rt y:YB}{v:Bool×Int}{v1 v2:Value}{ws:List SV}{α:Type}
def dN(l:List Int)(r:Int):List Int:=if r∈l then l else l++[r]
def fV(l:List Int)(vs:List (Bool×Int)):List Int:=vs.foldl (fun l v=>if v.1 then dN l v.2 else l) l
def Fo(l:List Int)(r:Int):(dN l r).length<=l.length+1:=by unfold dN;split<;>simp
def Q9(h:vs[j]?=some v):fV l (vs.take (j+1))=if v.1 then dN (fV l (vs.take j)) v.2 else fV l (vs.take j):=by unfold fV;rw[lg,h,List.foldl_append];rfl
def yh:∀(vs:List (Bool×Int))(l:List Int),(fV l vs).length<=l.length+vs.length
 |[],l=>fh _
 |v::vs,l=>by
  have h1:fV l (v::vs)=fV (if v.1 then dN l v.2 else l) vs:=rfl;rw[h1];have d:=yh vs (if v.1 then dN l v.2 else l);have m:(if v.1=true then dN l v.2 else l).length<=l.length+1:=by split;exact Fo _ _;omega
  simp only[List.length_cons];omega
def MtQ(n0:Nat)(W:SV)(xs:List Int)(h:az)(v:Value)(h':az):Prop:=ay (bt W.v) h h'/\∃L:SV,v=L.v/\bu encI n0 h' L.v xs/\∀c,bt L.v c->bt W.v c\/h.aw<=c
def CN(s:cr h)(hn:n0<=h.aw)(d:bu encI n0 h W.v xs)(U:xs.length<100000)(r:Int):bc FF 151 [W.v,.int .i64 r] h (MtQ n0 W (dN xs r) h):=by
 refine bc.of Ck ?_;unfold tR;simp;refine bm.call (V:=fun v h'=>h'=h/\v=.bool (decide (r∈xs))) (aj (IA d.sl ab r)) ?_;rintro _ h'⟨J,rfl⟩;rw[J];by_cases m:r∈xs;simp[m];exact⟨.refl s,W,ae,by unfold dN;rw[bM m];exact d,fun c u=>.inl u⟩;simp[m];have o:=aN s [.int .i64 r] 0;have I:=d.grow s o ai;have G:bj encI (aK h [.int .i64 r] 0) (.slice (some ⟨h.aw,0,none⟩) 1 1) [r]:=dz (E:=encI) (x:=r) (bz _ _ _);have Y:(aK h [.int .i64 r] 0).aw=h.aw+1:=rfl;obtain⟨Q,Z,H,C,M,D⟩:=fx (bytes:=8) o.ok (z:=[.int .i64 0]) rfl I G ab ag ab;obtain⟨K,rfl⟩:=bu.C5 C;refine cR (aj H) ?_;simp;exact⟨o.ck.trans M,K,ae,by unfold dN;rw[bU m];exact C,fun c u=>.inr (av (D c u))⟩
def MaI(h1:az)(n0:Nat)(W V:SV)(vs:List (Bool×Int))(xs:List Int)(m:Nat)(e:Env)(h':az):Prop:=
 ∃(j:Nat) (L:SV),m=vs.length-j/\j<=vs.length/\bH e 0=L.v/\bH e 1=V.v/\bJ e 5 j/\ay (bt W.v) h1 h'/\bu encI n0 h' L.v (fV xs (vs.take j))/\∀c,bt L.v c->bt W.v c\/h1.aw<=c
def yf(ok:cr h)(hn:n0<=h.aw){W V:SV}(M:bu encI n0 h W.v xs)(sV:bj cC h V.v vs)(hV:∀c,bt V.v c->¬bt W.v c)(hl:xs.length+vs.length<100000):bc FF 152 [W.v,V.v] h (MtQ n0 W (fV xs vs) h):=by
 have d:V.l=vs.length:=by obtain⟨a,cap,e,_⟩:=id sV;simp at e;exact e.2.1
 refine bc.of yM ?_;unfold pw;simp[d];refine aO.loop (MaI h n0 W V vs xs) ?_ (n:=vs.length) ⟨0,W,rfl,ab,ae,au d,ae,.refl ok,by simpa [fV] using M,fun c u=>.inl u⟩;rintro m e h'⟨j,L,rfl,hj,E,o,J,g,G,I⟩;have bS:=g.ok;unfold np;by_cases D:j<vs.length
 .have Y:=cg ((j:Int)+1) ab ab;obtain⟨v,hv⟩:=aV vs j D;have K:=sV.grow ok g (fun c u e=>hV c u e);obtain⟨bV,Z,capV,s,_,_,cZ⟩:=K.read hv;have C:=cZ 0 1 ag;have U:=cZ 1 1 ag;simp[-ax] at C U s;simp at o;rw[s.1,d] at o;have H:=Q9 (l:=xs) hv;have ll:=yh (vs.take j) xs;have tl:(vs.take j).length<=j:=by simp;omega
  have gn:=g.aw;cases Us:v.1 with
  |false=>
   rw[Us] at C H;simp[o,J,D,C,Y,-ax];exact⟨vs.length-(j+1),ab,j+1,L,rfl,D,au E,by simp[o,s,d],ae,g,by rw[H];simpa using G,I⟩
  |true=>
   rw[Us] at C H;simp[E,o,J,D,C,U,-ax];refine bm.call (V:=MtQ n0 L (dN (fV xs (vs.take j)) v.2) h') (by simpa [E] using CN bS ab G ab v.2) ?_;rintro _ h2⟨g2,L2,rfl,gK,Q⟩;simp[J,Y];exact⟨vs.length-(j+1),ab,j+1,L2,rfl,D,ae,by simp[o,s,d],ae,g.trans' g2 ai (fun c u e=>(I c e).elim id (fun h=>ab)),by rw[H];simpa using gK,fun c u=>(Q c u).elim (fun h=>I c h) (fun h=>.inr ab)⟩
 .have:j=vs.length:=ab
  subst this;rw[jT] at G;simp at o;rw[d] at o;simp[E,o,J];exact⟨g,L,ae,G,I⟩
def bq(l:List Int)(v:Bool×Int):Bool×Int:=if v.1 then(true,aR l v.2) else v
def uq(d:cr h)(E:bj encI h W.v xs)(C:xs.length<1000000)(v:Bool×Int):bc FF 153 [.agg ⟨[.bool v.1,.int .i64 v.2]⟩,W.v] h (fun u h'=>ay aZ h h'/\u=.agg ⟨[.bool (bq xs v).1,.int .i64 (bq xs v).2]⟩):=by
 have o:¬h.aw=h.aw+1:=ab
 refine bc.of AZ ?_;unfold sk;obtain⟨t,i⟩:=v;cases t with
 |true=>
  simp[o];refine bm.cut (fun h1=>ay aZ h h1/\dg h1 (h.aw+1) [.bool false,.int .i64 0]) ⟨((ay.refl d).new _ _).new _ _,0,ae⟩ ?_;rintro h1⟨m,H,s⟩;refine bm.call (V:=fun v h'=>h'=h1/\v=.int .i64 (aR xs i)) (aj (uw (E.ck d m) C i)) ?_;rintro _ G⟨D,rfl⟩;rw[D];simp[s,bq,bg];exact m.put ⟨_,s⟩ (.inl ab)
 |false=>
  simp[o,bq,bg];exact(((ay.refl d).new _ _).new _ _).put ⟨0,ae⟩ (.inl ab)
def gW(x:GI):List (Bool×Int):=
 if x.op=21 then [] else if x.op=20 then x.args else if(2<=x.op/\x.op<=15)\/x.op=19 then [x.a,x.b] else if 1<=x.op/\x.op<=22 then [x.a] else []
def CP(ok:cr h){x:GI}(sA:bj cC h A.v x.args)(hl:x.args.length<100000):bc FF 44 [.agg ⟨aJ x.op x.dst x.a.1 x.a.2 x.b.1 x.b.2 x.fn A.v⟩] h (fun v h'=>ay aZ h h'/\∃L:SV,v=L.v/\bu cC h.aw h' L.v (gW x)):=by
 have s:=aN ok (aJ x.op x.dst x.a.1 x.a.2 x.b.1 x.b.2 x.fn A.v) 0;have n1:(aK h (aJ x.op x.dst x.a.1 x.a.2 x.b.1 x.b.2 x.fn A.v) 0).aw=h.aw+1:=rfl;refine bc.of Ci ?_;unfold tP;by_cases H:x.op=21
 .have u:(x.op==21)=true:=by simp[H]
  simp[aJ,u];refine⟨by simpa [aJ] using s,cK,by simp[cK],.inl ⟨by unfold gW;rw[bM H],rfl⟩⟩
 have u:(x.op==21)=false:=aj H
 by_cases M:x.op=20
 .have D:(x.op==20)=true:=by simp[M]
  obtain⟨v',h2,I,m,o⟩:=qt (bytes:=16) (E:=cC) s.ok (z:=[.bool false,.int .i64 0]) rfl (n0:=h.aw) (xs:=[]) (v:=.slice none 0 0) (.inl ⟨rfl,rfl⟩) (sA.ck ok s) (by simp;omega) ag ab;obtain⟨L,rfl⟩:=bu.C5 m;simp[aJ,u,D];refine cR (by simpa [aJ] using I) ?_;simp;exact⟨s.trans' o ai (fun c _ e=>by obtain⟨_,_,_,e⟩:=e;cases e),L,ae,by unfold gW;rw[bU H,bM M];simpa using m⟩
 have D:(x.op==20)=false:=aj M
 by_cases Z:(2<=x.op/\x.op<=15)\/x.op=19
 .have o:=aN s.ok [.bool x.a.1,.int .i64 x.a.2,.bool x.b.1,.int .i64 x.b.2] 0;have hw:bj cC (aK (aK h (aJ x.op x.dst x.a.1 x.a.2 x.b.1 x.b.2 x.fn A.v) 0) [.bool x.a.1,.int .i64 x.a.2,.bool x.b.1,.int .i64 x.b.2] 0) (.slice (some ⟨h.aw+1,0,none⟩) 2 2) [x.a,x.b]:=⟨_,2,rfl,.inr ⟨h.aw+1,0,_,_,_,_,rfl,bz _ _ _,ae,by simp[Enc.flat]⟩⟩;obtain⟨v',U,I,m,g3⟩:=qt (bytes:=16) (E:=cC) o.ok (z:=[.bool false,.int .i64 0]) rfl (n0:=h.aw) (xs:=[]) (v:=.slice none 0 0) (.inl ⟨rfl,rfl⟩) hw ae ag (av o.aw);obtain⟨L,rfl⟩:=bu.C5 m;have d:ay aZ h U/\∃G:SV,L.v=G.v/\bu cC h.aw U G.v (gW x):=⟨(s.trans o).trans' g3 ai (fun c _ e=>by obtain⟨_,_,_,e⟩:=e;cases e),L,rfl,by unfold gW;rw[bU H,bU M,bM Z];simpa using m⟩;by_cases C:2<=x.op
  .by_cases K:x.op<=15;simp[aJ,u,D,C,K];refine cR (by simpa [aJ] using I) ?_;simpa using d
   .have J:(x.op==19)=true:=by simp;omega
    simp[aJ,u,D,C,K,J];refine cR (by simpa [aJ] using I) ?_;simpa using d
  omega
 have J:(x.op==19)=false:=by simp;omega
 by_cases Y:1<=x.op/\x.op<=22
 .have o:=aN s.ok (cC.enc x.a) 0;have hw:bj cC (aK (aK h (aJ x.op x.dst x.a.1 x.a.2 x.b.1 x.b.2 x.fn A.v) 0) (cC.enc x.a) 0) (.slice (some ⟨h.aw+1,0,none⟩) 1 1) [x.a]:=dz (bz _ _ _);obtain⟨v',U,I,m,g3⟩:=qt (bytes:=16) (E:=cC) o.ok (z:=[.bool false,.int .i64 0]) rfl (n0:=h.aw) (xs:=[]) (v:=.slice none 0 0) (.inl ⟨rfl,rfl⟩) hw ae ag (av o.aw);obtain⟨L,rfl⟩:=bu.C5 m;have d:ay aZ h U/\∃G:SV,L.v=G.v/\bu cC h.aw U G.v (gW x):=⟨(s.trans o).trans' g3 ai (fun c _ e=>by obtain⟨_,_,_,e⟩:=e;cases e),L,rfl,by unfold gW;rw[bU H,bU M,bU Z,bM Y];simpa using m⟩;obtain⟨Q,V⟩:=Y;by_cases C:2<=x.op
  .have K:¬x.op<=15:=ab
   simp[aJ,u,D,C,K,J,Q,V];refine cR (by simpa [aJ] using I) ?_;simpa using d
  simp[aJ,u,D,C,J,Q,V];refine cR (by simpa [aJ] using I) ?_;simpa using d
 .have d:ay aZ h (aK h (aJ x.op x.dst x.a.1 x.a.2 x.b.1 x.b.2 x.fn A.v) 0)/\∃G:SV,cK.v=G.v/\bu cC h.aw (aK h (aJ x.op x.dst x.a.1 x.a.2 x.b.1 x.b.2 x.fn A.v) 0) G.v (gW x):=⟨s,cK,rfl,.inl ⟨by unfold gW;rw[bU H,bU M,bU Z,bU Y],rfl⟩⟩;by_cases Q:1<=x.op
  .have V:¬x.op<=22:=ab
   have C:2<=x.op:=ab
   have K:¬x.op<=15:=ab
   simp[aJ,u,D,C,K,J,Q,V];simpa [aJ,cK] using d
  .have C:¬2<=x.op:=ab
   simp[aJ,u,D,C,J,Q];simpa [aJ,cK] using d
def RmI(h1:az)(U:Nat)(bs:List GB)(m:Nat)(e:Env)(h':az):Prop:=
 ∃j:Nat,m=bs.length-j/\j<=bs.length/\cm e 1 U/\bJ e 3 (dp (bs.take j))/\bJ e 4 j/\ay aZ h1 h'
def K9(bs:List GB)(j:Nat):dp (bs.take j)<=dp bs:=by
 induction bs generalizing j with
 |nil=>simp
 |cons b bs d=>
  cases j with
  |zero=>simp[dp]
  |succ j=>simp only[List.take_succ_cons,dp];have:=d j;omega
def Vc(J:cr h){name:ByteArray}{p r:Int}{B:SV}(Q:qg h B bs)(hl:bs.length<100000)(hm:dp bs<1000000000):bc FF 97 [.agg ⟨aC name p r B⟩] h (fun v h'=>ay aZ h h'/\v=.int .i64 (dp bs)):=by
 have dT:=aD.len Q;refine bc.of Cf ?_;unfold tM;simp[aC];refine aO.cut (fun h1=>ay aZ h h1/\dg h1 h.aw (aC name p r B)) ⟨(ay.refl J).new _ _,0,by simp[aC]⟩ ?_;rintro h1⟨D,sU,hU⟩;refine aO.loop (RmI h1 h.aw bs) ?_ (n:=bs.length) ⟨0,rfl,ab,ae,by simp[dp],ae,.refl D.ok⟩;rintro m e h'⟨j,rfl,hj,u,C,K,g⟩;have bS:=g.ok;have o:=D.trans g;have d:=g.get D.ok hU;simp[aC] at d;rw[dT] at d;unfold qM;by_cases E:j<bs.length
 .have Y:=cg ((j:Int)+1) ab ab;obtain⟨b,H⟩:=aV bs j E;obtain⟨bB,YO,cB,V,_,_,⟨P,L,T,rfl,sP,Z,sT⟩,oB,M⟩:=aD.later J Q H;have gY:=aD.len sP;have jt:=aD.len Z;have I:=M h' o 0 1 ag;have G:=M h' o 1 1 ag;simp[-ax] at I G;rw[V] at d;have tk:=ui H;have tl:=K9 bs (j+1);have U:IntKind.i64.wrap ((dp (bs.take j):Int)+(P.l:Int))=((dp (bs.take j)+b.bD.length:Nat):Int):=by rw[cg _ ab ab];omega
  have w2:IntKind.i64.wrap (((dp (bs.take j)+b.bD.length:Nat):Int)+(L.l:Int))=((dp (bs.take (j+1)):Nat):Int):=by rw[cg _ ab ab];omega
  have oU:=bS.cn d;have s:=o.cn oB;simp[u,C,K,d,aF d,E,I,G,oU,s,aQ,U,w2,Y,-ax,-Int.natCast_add];exact⟨bs.length-(j+1),ab,j+1,rfl,E,au u,ae,ae,by first|exact g.tick|exact g⟩
 .have:j=bs.length:=ab
  subst this;rw[jT] at C;simp[u,C,K,d];exact o
def iJ(r:Int)(bs:List GB):Bool:=decide (40<bs.length)||decide (300<dp bs)||decide (100<r)
def RM(E:cr h){name:ByteArray}{p r:Int}{B:SV}(G:qg h B bs)(J:bs.length<100000)(I:dp bs<1000000000):bc FF 45 [.agg ⟨aC name p r B⟩] h (fun v h'=>ay aZ h h'/\v=.bool (iJ r bs)):=by
 have s:=aD.len G;refine bc.of AQ ?_;unfold r6;by_cases d:40<bs.length
 .have o:(40:Int)<bs.length:=ab
  simp[aC,s,d,o,iJ];exact(by simpa [aC,s] using aN E (aC name p r B) 0)
 have o:¬(40:Int)<bs.length:=ab
 simp[aC,s,d,o];refine bm.cut (fun h1=>ay aZ h h1/\dg h1 h.aw (aC name p r B)) ⟨by simpa [aC,s] using aN E (aC name p r B) 0,0,by simp[aC,s]⟩ ?_;rintro h1⟨u,M,K⟩;refine bm.call (V:=fun v h'=>ay aZ h1 h'/\v=.int .i64 (dp bs)) (by simpa [aC,s] using Vc u.ok (name:=name) (p:=p) (r:=r) (G.mono E u) J I) ?_;rintro _ Q⟨D,rfl⟩;have H:=D.get u.ok K;simp[aC] at H;by_cases C:300<dp bs
 .have m:(300:Int)<dp bs:=ab
  simp[C,m,iJ,d];exact u.trans D
 .have m:¬(300:Int)<dp bs:=ab
  simp[C,m,H,iJ,d];exact u.trans D
def Fs(l:List Int)(ps:List GP):List Int:=ps.foldl (fun l p=>dN l p.dst) l
def Ft(l:List Int)(x:GI):List Int:=if 0<=x.dst then dN (fV l (gW x)) x.dst else fV l (gW x)
def wq(l:List Int)(xs:List GI):List Int:=xs.foldl Ft l
def YD{ps:List GP}{p:GP}(h:ps[j]?=some p):Fs l (ps.take (j+1))=dN (Fs l (ps.take j)) p.dst:=by unfold Fs;rw[lg,h,List.foldl_append];rfl
def I9:∀(ps:List GP)(l:List Int),(Fs l ps).length<=l.length+ps.length
 |[],l=>fh _
 |p::ps,l=>by have h1:Fs l (p::ps)=Fs (dN l p.dst) ps:=rfl;rw[h1];have d:=I9 ps (dN l p.dst);have m:=Fo l p.dst;simp only[List.length_cons];omega
def ass(h1:az)(n0 X:Nat)(W:SV)(xs:List Int)(ps:List GP)(e:Env)(m:Nat)(e':Env)(h':az):Prop:=
 ∃(j:Nat) (L:SV),m=ps.length-j/\j<=ps.length/\aM ([3,7]++(List.range 15).map (· +33)) e e'/\bH e' 3=L.v/\bJ e' 7 j/\ay (bt W.v) h1 h'/\bu encI n0 h' L.v (Fs xs (ps.take j))/\∀c,bt L.v c->bt W.v c\/h1.aw<=c
def acP(dt:cr h0)(gi:cr h1)(hn:n0<=h1.aw)(u:∀ {h':az},ay (bt W.v) h1 h'->ay aZ h0 h'){ps:List GP}(sP:aD (pR h0) 2 h0 P.v ps)(G:bu encI n0 h1 W.v xs)(hl:xs.length+ps.length<100000)(hX:fC h1 X (P.v::cs) sX)(J:¬bt W.v X)(f3:bH e 3=W.v)(f6:cm e 6 X)(f7:bJ e 7 0)(C:∀o h' (L:SV),aM ([3,7]++(List.range 15).map (· +33)) e o->bH o 3=L.v->ay (bt W.v) h1 h'->bu encI n0 h' L.v (Fs xs ps)->(∀c,bt L.v c->bt W.v c\/h1.aw<=c)->QQ (.exit 4) o h'):aO FF (.loop lD) e h1 QQ:=by
 have gY:=aD.len sP;refine aO.loop (ass h1 n0 X W xs ps e) ?_ (n:=ps.length) ⟨0,W,rfl,ab,aM.refl _ _,f3,f7,.refl gi,by simpa [Fs] using G,fun c s=>.inl s⟩;rintro m o h'⟨j,L,rfl,hj,K,H,D,g,E,I⟩;have bS:=g.ok;have g0:ay aZ h0 h':=u g;have U:=K.at f6;have d:=g.get gi hX J;simp at d;rw[gY] at d;unfold lD;by_cases Q:j<ps.length
 .have wj:=cg ((j:Int)+1) ab ab;obtain⟨p,Z⟩:=aV ps j Q;obtain⟨bP,apy,cP,kB,_,_,⟨A,rfl,sA⟩,oP,KW⟩:=aD.later dt sP Z;have Y:=KW h' g0 0 1 ag;simp[-ax] at Y;rw[kB] at d;have tk:=YD (l:=xs) Z;have ll:=I9 (ps.take j) xs;have tl:(ps.take j).length<=j:=by simp;omega
  have gn:=g.aw;simp[H,U,D,d,aF d,Q,Y,-ax];refine bm.call (V:=MtQ n0 L (dN (Fs xs (ps.take j)) p.dst) h') (by simpa [H] using CN bS ab E ab p.dst) ?_;rintro _ h2⟨g2,L2,rfl,gK,M⟩;simp[D,wj];refine⟨ps.length-(j+1),ab,j+1,L2,rfl,Q,?_,ae,ae,g.trans' g2 ai (fun c s e=>(I c e).elim id (fun h=>ab)),by rw[tk];exact gK,fun c s=>(M c s).elim (fun h=>I c h) (fun h=>.inr ab)⟩
  exact aq
 .have:j=ps.length:=ab
  subst this;rw[jT] at E;simp[U,D,d,aF d,-ax];refine C _ _ L ?_ (au H) g E I
  exact aq
def YC{xs:List GI}{x:GI}(h:xs[j]?=some x):wq l (xs.take (j+1))=Ft (wq l (xs.take j)) x:=by unfold wq;rw[lg,h,List.foldl_append];rfl
def xD(x:GI):(gW x).length<=x.args.length+2:=by
 unfold gW
 (repeat' split)<;>simp<;>omega
def acM(l:List Int)(x:GI):(Ft l x).length<=l.length+x.args.length+3:=by
 have h1:=yh (gW x) l;have d:=xD x;unfold Ft;split
 have:=Fo (fV l (gW x)) x.dst;omega;omega
def I8(k:Nat):∀(xs:List GI)(l:List Int),(∀x∈xs,x.args.length<=k)->(wq l xs).length<=l.length+xs.length*(k+3)
 |[],l,_=>by simp[wq]
 |x::xs,l,h=>by have h1:wq l (x::xs)=wq (Ft l x) xs:=rfl;rw[h1];have m:=I8 k xs (Ft l x) (fun y d=>h y (uQ _ d));have s:=acM l x;have o:=h x (h_ ..);simp only[List.length_cons,uP,Nat.one_mul];omega
def amd:List Nat:=[3,8]++(List.range 30).map (· +48)
def asr(h1:az)(n0:Nat)(W:SV)(l0:List Int)(xs:List GI)(e:Env)(m:Nat)(e':Env)(h':az):Prop:=
 ∃(j:Nat) (L:SV),m=xs.length-j/\j<=xs.length/\aM amd e e'/\bH e' 3=L.v/\bJ e' 8 j/\ay (bt W.v) h1 h'/\bu encI n0 h' L.v (wq l0 (xs.take j))/\∀c,bt L.v c->bt W.v c\/h1.aw<=c
def acN(dt:cr h0)(gi:cr h1)(hn:n0<=h1.aw){W P I:SV}(G:∀ {h':az},ay (bt W.v) h1 h'->ay aZ h0 h'){xs:List GI}(sI:aD (iR h0) 8 h0 I.v xs)(acc:bu encI n0 h1 W.v l0)(xG:xs.length<=300)(x5:∀x∈xs,x.args.length<=100)(hl:l0.length<60000)(hX:fC h1 X (P.v::I.v::cs) sX)(H:¬bt W.v X)(f3:bH e 3=W.v)(f6:cm e 6 X)(f8:bJ e 8 0)(C:∀e' h' (L:SV),aM amd e e'->bH e' 3=L.v->ay (bt W.v) h1 h'->bu encI n0 h' L.v (wq l0 xs)->(∀c,bt L.v c->bt W.v c\/h1.aw<=c)->QQ (.exit 6) e' h'):aO FF (.loop lC) e h1 QQ:=by
 have hIl:=aD.len sI;refine aO.loop (asr h1 n0 W l0 xs e) ?_ (n:=xs.length) ⟨0,W,rfl,ab,aM.refl _ _,f3,f8,.refl gi,by simpa [wq] using acc,fun c o=>.inl o⟩;rintro m e' h'⟨j,L,rfl,hj,K,q3,J,g,Z,hL⟩;have bS:=g.ok;have g0:ay aZ h0 h':=G g;have q6:=K.at f6;have d:=g.get gi hX H;have hX0:=d;simp at d;rw[hIl] at d;unfold lC;by_cases E:j<xs.length
 .have wj:=cg ((j:Int)+1) ab ab;obtain⟨x,hx⟩:=aV xs j E;have Kl:=cN hx;obtain⟨bI,axg,cI,hIa,_,_,⟨A,rfl,sA⟩,oI,s⟩:=aD.later dt sI hx;have r0:=s h' g0 0 8 ag;simp[-ax,aJ] at r0;rw[hIa] at d;have tk:=YC (l:=l0) hx;have ll:=I8 100 (xs.take j) l0 (fun y hy=>x5 y (XK hy));have tl:(xs.take j).length<=j:=by simp;omega
  have ul:=xD x;have al:=x5 x Kl;have gn:=g.aw;have lm:(wq l0 (xs.take j)).length<92000:=by have:(xs.take j).length*103<=300*103:=CX _ ab;omega
  simp[q3,q6,J,d,aF d,E,r0,-ax];refine bm.call (V:=fun v Q=>ay aZ h' Q/\∃U:SV,v=U.v/\bu cC h'.aw Q U.v (gW x)) (by simpa [aJ] using CP bS ((BP sA).ck dt g0) (x:=x) ab) ?_;rintro _ Q⟨D,U,rfl,aU⟩;have gK:=Z.grow bS D ai;have l2:=D.aw;have YS:∀c,bt L.v c->c<h'.aw:=fun c e=>by rcases Z with⟨_,e2⟩|⟨b2,s2,e2,pz,_,_⟩;rw[e2] at e;obtain⟨_,_,_,e3⟩:=e;cases e3;rw[e2] at e;obtain⟨_,_,_,e3⟩:=e;cases e3;exact bS.wf _ _ pz
  simp[q3];refine bm.call (V:=MtQ n0 L (fV (wq l0 (xs.take j)) (gW x)) Q) (by simpa [q3] using yf D.ok ab gK aU.sl (fun c o e=>by have:=aU.of o;have:=YS c e;omega) ab) ?_;rintro _ h3⟨Y,L3,rfl,fM,hL3⟩;have l3:=Y.aw;have nLX:¬bt L.v X:=fun e=>by rcases hL X e with h|h;exact H h;have:=gi.wf _ _ hX;omega
  have eD:=Y.get D.ok (D.get bS d) nLX;have gg:ay (bt W.v) h1 h3:=(g.trans D.ck).trans' Y ai (fun c o e=>(hL c e).elim id (fun h=>ab));have r1:=s h3 (G gg) 1 1 ag;simp[-ax,aJ] at r1;have u:∀c,bt L3.v c->bt W.v c\/h1.aw<=c:=fun c o=>(hL3 c o).elim (fun h=>hL c h) (fun h=>.inr ab);by_cases M:0<=x.dst
  .have em:Ft (wq l0 (xs.take j)) x=dN (fV (wq l0 (xs.take j)) (gW x)) x.dst:=by unfold Ft;rw[bM M]
   have ml:=yh (gW x) (wq l0 (xs.take j));simp[q6,J,eD,aF eD,E,r1,M,-ax];refine bm.call (V:=MtQ n0 L3 (dN (fV (wq l0 (xs.take j)) (gW x)) x.dst) h3) (aj (CN Y.ok ab fM ab x.dst)) ?_;rintro _ h4⟨g4,L4,rfl,uW,XS⟩;have l4:=g4.aw;simp[J,wj];refine⟨xs.length-(j+1),ab,j+1,L4,rfl,E,?_,ae,ae,gg.trans' g4 ai (fun c o e=>(u c e).elim id (fun h=>ab)),by rw[tk,em];exact uW,fun c o=>(XS c o).elim (fun h=>u c h) (fun h=>.inr ab)⟩
   exact aq
  .have em:Ft (wq l0 (xs.take j)) x=fV (wq l0 (xs.take j)) (gW x):=by unfold Ft;rw[bU M]
   simp[q6,J,eD,aF eD,E,r1,M,wj,-ax];refine⟨xs.length-(j+1),ab,j+1,L3,rfl,E,?_,ae,ae,gg,by rw[tk,em];exact fM,u⟩
   exact aq
 .have:j=xs.length:=ab
  subst this;rw[jT] at Z;simp[q6,J,d,aF d,-ax];refine C _ _ L ?_ (au q3) g Z hL
  exact aq
def UL(l:List Int)(b:GB):List Int:=fV (wq (Fs l b.bD) b.list) [b.on]
def qJ(l:List Int)(bs:List GB):List Int:=bs.foldl UL l
def UM{b:GB}(h:bs[j]?=some b):qJ l (bs.take (j+1))=UL (qJ l (bs.take j)) b:=by unfold qJ;rw[lg,h,List.foldl_append];rfl
def ast(h1:az)(S:Nat)(l0:List Int)(bs:List GB)(m:Nat)(e':Env)(h':az):Prop:=
 ∃(j:Nat) (L:SV),m=bs.length-j/\j<=bs.length/\cm e' 1 S/\bH e' 3=L.v/\bJ e' 5 j/\ay (fun c=>h1.aw<=c) h1 h'/\bu encI h1.aw h' L.v (qJ l0 (bs.take j))
def UO{h0 h1 hs:az}(dt:cr h0)(I:ay aZ h0 h1)(gs:ay aZ h1 hs){W B:SV}{p r:Int}(hB:qg h0 B bs)(acc:bu encI h1.aw hs W.v l0)(qW:bs.length<=100)(wg:∀b∈bs,b.bD.length<=300)(Ki:∀b∈bs,b.list.length<=300)(x5:∀b∈bs,∀x∈b.list,x.args.length<=100)(dJ:∀j,(qJ l0 (bs.take j)).length<50000){S sS:Nat}(hS:fC h1 S (aC name p r B) sS)(f1:cm e 1 S)(f3:bH e 3=W.v)(f5:bJ e 5 0)(C:∀e' h' (L:SV),cm e' 1 S->bH e' 3=L.v->ay aZ h1 h'->bu encI h1.aw h' L.v (qJ l0 bs)->QQ (.exit 2) e' h'):aO FF (.loop lJ) e hs QQ:=by
 have dT:=aD.len hB;have ck:∀ {h'},ay (fun c=>h1.aw<=c) h1 h'->ay aZ h1 h':=fun g=>(ay.refl I.ok).trans' g ai (fun c o e=>ab);refine aO.loop (ast h1 S l0 bs) ?_ (n:=bs.length) ⟨0,W,rfl,ab,f1,f3,f5,gs.ck,by simpa [qJ] using acc⟩;rintro m e' h'⟨j,L,rfl,hj,q1,q3,q5,g,M⟩;have bS:=g.ok;have E:=ck g;have g0:ay aZ h0 h':=I.trans E;have G:=E.get I.ok hS;simp[aC] at G;rw[dT] at G;unfold lJ;by_cases bk:j<bs.length
 .have wj:=cg ((j:Int)+1) ab ab;obtain⟨b,hb⟩:=aV bs j bk;have U:=cN hb;obtain⟨bB,YO,cB,fp,_,_,⟨P,LL,T,rfl,sP,sL,sT⟩,oB,Y⟩:=aD.later dt hB hb;have rd:=Y h' g0 0 6 ag;simp[-ax] at rd;rw[fp] at G;have tk:=UM (l:=l0) hb;have gn:=g.aw;have QF:=dJ j;have mp:=I9 b.bD (qJ l0 (bs.take j));have hp1:=wg b U;have Z:∀c,bt L.v c->c<h'.aw:=fun c e=>by rcases M with⟨_,D⟩|⟨b2,s2,D,pz,_,_⟩;rw[D] at e;obtain⟨_,_,_,d⟩:=e;cases d;rw[D] at e;obtain⟨_,_,_,d⟩:=e;cases d;exact bS.wf _ _ pz
  simp[q1,q5,G,aF G,bk,rd,aH,-ax];refine aO.cut (fun h2=>ay aZ h' h2/\dg h2 h'.aw [P.v,LL.v,.int .i64 b.kind,.bool b.on.1,.int .i64 b.on.2,T.v]) ⟨(ay.refl bS).var _ _,h'.clock,by simp[bg]⟩ ?_;rintro h2⟨H,sX,hX⟩;have gK:=M.grow bS H ai;have Hi:=g0.trans H;have l2:=H.aw;have lX:=H.ok.wf _ _ hX;have s:∀c,bt L.v c->h1.aw<=c:=fun c o=>M.of o;refine acP dt H.ok (n0:=h1.aw) (X:=h'.aw) ab (fun gx=>Hi.trans' gx ai (fun c o e=>by have:=s c e;have:=I.aw;omega)) sP gK ab hX (fun e=>av (Z _ e)) (au q3) ae ae ?_;intro d h3 L3 K3 p3 K fM Q;have m1:=K3.at (t:=1) (ak q1);have m5:=K3.at (t:=5) (ak q5);have m6:=K3.at (t:=6) (show cm _ 6 h'.aw by simp);have eD:=K.get H.ok hX (fun e=>av (Z _ e));have l3:=K.aw;have g03:ay aZ h0 h3:=Hi.trans' K ai (fun c o e=>by have:=s c e;have:=I.aw;omega);simp;refine acN dt K.ok (n0:=h1.aw) (X:=h'.aw) ab (fun gx=>g03.trans' gx ai (fun c o e=>by have:=fM.of e;have:=I.aw;omega)) sL fM (Ki b U) (x5 b U) ab eD (fun e=>(Q _ e).elim (fun h=>av (Z _ h)) (fun h=>ab)) (au p3) (au m6) ae ?_;intro e4 u L4 K4 p4 J uW XS;have n1:cm e4 1 S:=K4.at (ak m1);have n5:bH e4 5=.int .i64 j:=K4.at (ak m5);have n6:cm e4 6 h'.aw:=K4.at (ak m6);have nX3:¬bt L3.v h'.aw:=fun e=>(Q _ e).elim (fun h=>av (Z _ h)) (fun h=>ab);have kR:=J.get K.ok eD nX3;have l4:=J.aw;simp at kR;simp[n6,p4,kR];have g5:=aN J.ok (cC.enc b.on) 0;have qq:=uW.grow J.ok g5 ai;have zK:bj cC (aK u (cC.enc b.on) 0) (.slice (some ⟨u.aw,0,none⟩) 1 1) [b.on]:=dz (bz _ _ _);have n2:(aK u (cC.enc b.on) 0).aw=u.aw+1:=rfl;have ml:=I8 100 b.list (Fs (qJ l0 (bs.take j)) b.bD) (x5 b U);have avw:=Ki b U;have apB:∀c,bt L4.v c->c<u.aw:=fun c e=>by rcases uW with⟨_,D⟩|⟨b2,s2,D,pz,_,_⟩;rw[D] at e;obtain⟨_,_,_,d⟩:=e;cases d;rw[D] at e;obtain⟨_,_,_,d⟩:=e;cases d;exact J.ok.wf _ _ pz
  have big:b.list.length*103<=300*103:=CX _ avw;refine bm.call (V:=MtQ h1.aw L4 (UL (qJ l0 (bs.take j)) b) (aK u (cC.enc b.on) 0)) (by simpa [UL] using yf (V:=⟨some ⟨u.aw,0,none⟩,1,1⟩) g5.ok ab qq zK (fun c o e=>by obtain⟨_,_,_,d⟩:=o;cases d;have:=apB _ e;omega) (by simp;omega)) ?_;rintro _ h6⟨g6,L6,rfl,uX,Pj⟩;simp[n5,wj];refine⟨bs.length-(j+1),ab,j+1,L6,rfl,bk,au n1,ae,ae,?_,by rw[tk];exact uX⟩;have t3:ay (fun c=>h1.aw<=c) h1 h3:=(g.trans H.ck).trans' K ai (fun c _ e=>s c e);have t4:=t3.trans' J ai (fun c _ e=>fM.of e);exact(t4.trans g5.ck).trans' g6 ai (fun c _ e=>uW.of e)
 .have:j=bs.length:=ab
  subst this;rw[jT] at M;simp[q1,q5,G,aF G,-ax];exact C _ _ L (au q1) (au q3) E M
def kT(p:Nat):List Int:=(List.range p).map fun x:Nat=>(x:Int)
def Jr(p:Nat):kT (p+1)=kT p++[(p:Int)]:=by unfold kT;rw[List.range_succ];simp
def asu(h1:az)(S p:Nat)(m:Nat)(e':Env)(h':az):Prop:=
 ∃(j:Nat) (L:SV),m=p-j/\j<=p/\cm e' 1 S/\bH e' 3=L.v/\bJ e' 4 j/\ay aZ h1 h'/\bu encI h1.aw h' L.v (kT j)
def acO(M:cr h1){B:SV}{p:Nat}{r:Int}(hp:p<1000){S Z:Nat}(hS:fC h1 S (aC name p r B) Z)(Y:cm e 1 S)(f3:bH e 3=cK.v)(f4:bJ e 4 0)(C:∀s h' (L:SV),cm s 1 S->bH s 3=L.v->ay aZ h1 h'->bu encI h1.aw h' L.v (kT p)->QQ (.exit 0) s h'):aO FF (.loop lK) e h1 QQ:=by
 refine aO.loop (asu h1 S p) ?_ (n:=p) ⟨0,cK,rfl,ab,Y,f3,f4,.refl M,.inl ⟨rfl,rfl⟩⟩;rintro m s h'⟨j,L,rfl,hj,o,I,G,g,d⟩;have J:=g.ok;have D:=g.get M hS;simp[aC] at D;unfold lK;by_cases K:j<p
 .have Q:=cg ((j:Int)+1) ab ab;simp[o,I,G,D,K];have u:=aN J [.int .i64 j] 0;have U:=d.grow J u ai;have zK:bj encI (aK h' [.int .i64 j] 0) (.slice (some ⟨h'.aw,0,none⟩) 1 1) [(j:Int)]:=dz (E:=encI) (x:=(j:Int)) (bz _ _ _);have n2:(aK h' [.int .i64 j] 0).aw=h'.aw+1:=rfl;have gn:=g.aw;have hl:(kT j).length=j:=by simp[kT]
  obtain⟨v',h3,ha,H,V,_⟩:=fx (bytes:=8) u.ok (z:=[.int .i64 0]) rfl U zK ab ag ab;obtain⟨L',rfl⟩:=bu.C5 H;refine cR (aj ha) ?_;simp[G,Q];exact⟨p-(j+1),ab,j+1,L',rfl,K,au o,ae,ae,(g.trans u).trans' V ai (fun c hc e=>av (d.of e)),by rw[Jr];exact H⟩
 .have:j=p:=ab
  subst this;simp[o,G,D];exact C _ _ L (au o) (au I) g d
def LR:∀ {xs:List (Int×(Bool×Int))} {n:Int},xs.Pairwise (fun a b=>a.1<b.1)->xs.filter (fun x=>decide (x.1<n+1))=xs.filter (fun x=>decide (x.1<n))++xs.filter (fun x=>x.1==n)
 |[],_,_=>rfl
 |x::xs,n,h=>by
  obtain⟨h1,m⟩:=List.pairwise_cons.1 h;have d:=LR (n:=n) m;rcases Int.lt_trichotomy x.1 n with e|e|e
  rw[List.filter_cons_of_pos (by simp;omega),List.filter_cons_of_pos (by simp;omega),List.filter_cons_of_neg (by simp;omega),d];rfl
  .have no:xs.filter (fun x=>decide (x.1<n))=[]:=by rw[List.filter_eq_nil_iff];intro y o;have:=h1 y o;simp;omega
   rw[List.filter_cons_of_pos (by simp;omega),List.filter_cons_of_neg (by simp;omega),List.filter_cons_of_pos (by simp;omega),d,no];rfl
  rw[List.filter_cons_of_neg (by simp;omega),List.filter_cons_of_neg (by simp;omega),List.filter_cons_of_neg (by simp;omega),d]
def Qs:∀ {xs:List (Int×(Bool×Int))} {n:Int},xs.Pairwise (fun a b=>a.1<b.1)->(∀x∈xs,x.1≠n)/\xs.filter (fun x=>x.1==n)=[]\/∃x∈xs,x.1=n/\xs.filter (fun x=>x.1==n)=[x]
 |[],_,_=>.inl ⟨fun x h=>by simp at h,rfl⟩
 |x::xs,n,h=>by
  obtain⟨h1,m⟩:=List.pairwise_cons.1 h;by_cases e:x.1=n;refine .inr ⟨x,h_ ..,e,?_⟩;rw[List.filter_cons_of_pos (aj e)];congr 1;rw[List.filter_eq_nil_iff];intro y o;have:=h1 y o;simp;omega
  rcases Qs (n:=n) m with⟨a,b⟩|⟨y,a,b,c⟩;refine .inl ⟨fun z d=>?_,by rw[List.filter_cons_of_neg (aj e),b]⟩;rcases List.mem_cons.1 d with rfl|d;exact e;exact a z d;exact .inr ⟨y,uQ _ a,b,by rw[List.filter_cons_of_neg (aj e),c]⟩
def yu{l xs:List (Int×(Bool×Int))}(P:xs.Perm l)(h:xs.Pairwise (fun a b=>a.1<b.1))(h0:∀x∈l,0<=x.1):∀n:Nat,iC l n=(xs.filter (fun x=>decide (x.1<(n:Int)))).map (·.2)
 |0=>by
  have:xs.filter (fun x=>decide (x.1<((0:Nat):Int)))=[]:=by rw[List.filter_eq_nil_iff];intro y m;have:=h0 y (P.subset m);simp;omega
  rw[this];rfl
 |n+1=>by
  have e:((n+1:Nat):Int)=(n:Int)+1:=ab
  rw[JL,yu P h h0 n,e,LR h,List.map_append];congr 1;rcases Qs (n:=(n:Int)) h with⟨a,b⟩|⟨x,a,b,c⟩;rw[b,Qw fun i x u=>a x (P.symm.subset (cN u))];rfl
  .rw[c];have s:∀y∈l,y.1=(n:Int)->y=x:=fun y m e=>by have:y∈xs.filter (fun x=>x.1==(n:Int)):=Ai.2 ⟨P.symm.subset m,aj e⟩;rw[c] at this;simpa using this
   have d:eS l n=some x.2:=by
    unfold eS;cases d:l.find? fun x=>x.1==(n:Int) with
    |none=>have:=List.find?_eq_none.1 d x (P.subset a);simp at this;omega
    |some y=>
     have h1:=List.mem_of_find?_eq_some d;have o:=List.find?_some d;rw[s y h1 (aj o)];rfl
   rw[d];rfl
def ZR{l xs:List (Int×(Bool×Int))}(S:aaR l xs)(h0:∀x∈l,0<=x.1/\x.1<n):xs.map (·.2)=iC l n:=by
 rw[yu S.1 S.2 (fun x d=>(h0 x d).1) n];congr 1
 symm
 rw[List.filter_eq_self];intro x d;have:=h0 x (S.1.subset d);simpa using this.2
inductive Lc where
 |B
 |P (i:Nat)
 |L (i:Nat)
 |T (i:Nat)
 |R (i j:Nat)
 |X (i j:Nat)
def Lc.mv(i:Nat):Lc->Lc
 |.B=>.B
 |.P _=>.P i
 |.L _=>.L i
 |.T _=>.T i
 |.R _ j=>.R i j
 |.X _ j=>.X i j
def eo.ap5(w:eo cC h A vs):aD vR 2 h A.v vs:=w.view rfl (fun i x y a b=>by rw[a] at b;cases b;rfl)
def dI{E:Enc α}{xs:List α}(a:bu E n0 h L.v xs):eo E h L xs:=by rcases a with⟨rfl,e⟩|⟨b,s,e,d,m,o⟩;simp at e;exact⟨e.2.1,.inl ⟨e.1,e.2.2,rfl⟩⟩;simp at e;exact⟨e.2.1,.inr ⟨b,E.sz,s,[],e.1,by simp[e.2.2],aj d,.inr rfl⟩⟩
def De{E:Enc α}{xs:List α}(a:tA E n0 h L.v xs):eo E h L xs:=by rcases a with a|⟨rfl,b,s,e,d,m⟩;exact dI a;simp at e;exact⟨e.2.1,.inr ⟨b,0,s,[],e.1,by simp[e.2.2],aj d,.inl rfl⟩⟩
def tA.sv{E:Enc α}{v:Value}{xs:List α}(a:tA E n0 h v xs):∃L:SV,v=L.v:=by rcases a with a|⟨_,b,s,e,_,_⟩;exact bu.C5 a;exact⟨⟨some ⟨b,0,none⟩,0,0⟩,e⟩
def tA.of{α:Type}{E:Enc α}{n0:Nat}{h:az}{v:Value}{xs:List α}(a:tA E n0 h v xs){c:Nat}(o:bt v c):n0<=c:=by rcases a with a|⟨_,b,s,rfl,_,d⟩;exact bu.of a o;obtain⟨_,_,_,e⟩:=o;cases e;exact d
def EH{E:Enc α}(m:cr h){bytes:Nat}{z:List Value}{w:Value}{xs:List α}(C:z.length=E.sz)(o:bj E h w xs)(s:xs.length<1000000)(u:bytes<=1000):∃(L:SV) (h':az),fS (aK h [] 0) z bytes false (.slice (some ⟨h.aw,0,none⟩) 0 0) w=some (L.v,h')/\tA E h.aw h' L.v xs/\ay aZ h h':=by
 have d:=aN m [] 0;obtain⟨v,h',e,a,_,g⟩:=tc (bytes:=bytes) d.ok C (PF (fh _)) (o.ck m d) (aj s) u d.aw;obtain⟨L,rfl⟩:=tA.sv a;exact⟨L,h',e,aj a,d.trans' g ai (fun x D e=>by obtain⟨_,_,_,e⟩:=e;cases e;omega)⟩
def fB(f:Int->Int)(l:List (Int×(Bool×Int))):List (Int×(Bool×Int)):=l.filterMap fun e=>if 0<=f e.1 then some (f e.1,e.2) else none
def IU{l:List (Int×(Bool×Int))}{x:Int×(Bool×Int)}(h:l[j]?=some x):fB f (l.take (j+1))=fB f (l.take j)++(if 0<=f x.1 then [(f x.1,x.2)] else []):=by unfold fB;rw[lg,h,List.filterMap_append];congr 1;by_cases e:0<=f x.1<;>simp[e]
def KrL:List Nat:=[15,16,17,18,64,65,66,67,68,69,70,71,72,73,74,75,76,77,78,79,80,81,82,83,84,85,86,87]
def ash(h:az)(ats:List Int)(es:List (Int×(Bool×Int)))(e:Env)(m:Nat)(e':Env)(h':az):Prop:=
 ∃(j:Nat) (L:SV),m=es.length-j/\j<=es.length/\aM KrL e e'/\bJ e' 64 j/\bH e' 15=L.v/\ay aZ h h'/\bu iS h.aw h' L.v (fB (kH ats) (es.take j))
def Ys(M:cr h){n dA d8 c8 k sA s8 o8:Nat}{ps:List Int}(hn:n<=1000)(hA:fC h dA (encI.flat ats) sA)(x5:ats.length=n)(h8:h.tr.get d8=some (.bZ (rj.flat ws) false o8 s8))(hws:ws[k]?=some wk)(Ps:k<n)(ju:aD nR 1 h wk.v ps)(hpr:∀p∈ps,0<=p/\p<n)(nC:aD vR 2 h A.v row)(hl:row.length=ps.length)(wg:ps.length<1000000)(f5:bH e 5=.slice (some ⟨dA,0,none⟩) n n)(f8:bH e 8=.slice (some ⟨d8,0,none⟩) n c8)(f11:bJ e 11 k)(f15:bH e 15=cK.v)(f62:bH e 62=A.v)(f63:bJ e 63 row.length)(f64:bJ e 64 0)(C:∀e' h' L,ay aZ h h'->aM KrL e e'->bH e' 15=SV.v L->bu iS h.aw h' (SV.v L) (fB (kH ats) (ps.zip row))->QQ (.exit 6) e' h'):aO FF (.loop qn) e h QQ:=by
 have ni:=aD.len nC;have Pu:=aD.len ju;have wK:(ps.zip row).length=row.length:=by simp;omega
 refine aO.loop (ash h ats (ps.zip row) e) ?_ (n:=(ps.zip row).length) ⟨0,cK,rfl,ab,aM.refl _ _,f64,f15,.refl M,.inl ⟨rfl,rfl⟩⟩;rintro m e' h'⟨j,L,rfl,hj,K,d,I,g,G⟩;have q5:=K.at f5;have q8:=K.at f8;have Jz:=K.at f11;have Zh:=K.at f62;have D:=K.at f63;unfold qn;by_cases bk:j<row.length
 .have wj:=cg ((j:Int)+1) ab ab;obtain⟨v,hx⟩:=aV row j bk;obtain⟨a,hp⟩:=aV ps j;obtain⟨ha0,han⟩:=hpr a (cN hp);obtain⟨u,rfl⟩:∃u:Nat,a=u:=⟨a.toNat,ab⟩;have Pt:u<n:=ab
  obtain⟨b1,YM,c1,Bf,_,_,rfl,o1,Fg⟩:=aD.later M nC hx;obtain⟨b2,YN,c2,hwa,_,_,rfl,o2,Ha⟩:=aD.later M ju hp;have r1:=Fg h' g 0 2 ag;have r2:=Ha h' g 0 1 ag;have hA':=g.get M hA;have U:=g.get M h8;obtain⟨t,ht⟩:=aV ats u;have rt:=lQ hA' ht;have o:=CK U hws;have Z:j<ps.length:=ab
  have Q:=g.cn o1;have H:=g.cn o2;have oA:=g.ok.cn hA';have o8:=g.ok.cn U;simp[-ax] at r1 r2 o;rw[hwa,Pu] at o;simp at Zh I;rw[Bf,ni] at Zh;have E:=IU (f:=kH ats) (l:=ps.zip row) (x:=((u:Int),v)) (by rw[List.getElem?_zip_eq_some];exact⟨hp,hx⟩);have hnt:kH ats (u:Int)=t:=by simp[kH,ht]
  dsimp only at E;rw[hnt] at E;by_cases s:0<=t
  .rw[bM s] at E;simp[q5,q8,Jz,I,Zh,D,d,bk,r1,r2,o,rt,Ps,Pt,Z,s,-ax,aH,cH,bw,Q,H,oA,o8];have gv:ay aZ h' (put (aK h' [.bool false,.int .i64 0] 0) h'.aw 0 [.bool false,.int .i64 0] [.bool v.1,.int .i64 v.2] 0):=(ay.refl g.ok).var _ _;obtain⟨Y,e2⟩:∃Y,Y=put (aK h' [.bool false,.int .i64 0] 0) h'.aw 0 [.bool false,.int .i64 0] [.bool v.1,.int .i64 v.2] 0:=⟨_,rfl⟩;have QH:Y.aw=h'.aw+1:=by rw[e2];rfl
   rw[<-e2] at gv⊢;have g2:=g.trans gv;have g3:=aN g2.ok (iS.enc (t,v)) 0;have Hk:=(G.grow g.ok gv ai).grow g2.ok g3 ai;have hw3:bj iS (aK Y (iS.enc (t,v)) 0) (.slice (some ⟨Y.aw,0,none⟩) 1 1) [(t,v)]:=dz (bz _ _ _);have ajn:(fB (kH ats) ((ps.zip row).take j)).length<=j:=sx (List.length_filterMap_le _ _) (by simp;omega);have ln:=g2.aw;obtain⟨v',h5,J,CY,g5,ID⟩:=fx (bytes:=24) g3.ok (z:=[.int .i64 0,.bool false,.int .i64 0]) rfl Hk hw3 ab ag (by simp;omega);rw[QH] at J;refine cR (aj J) ?_;obtain⟨V,rfl⟩:=bu.C5 CY;simp[d,wj];refine⟨(ps.zip row).length-(j+1),ab,j+1,V,rfl,ab,?_,ae,ae,(g2.trans g3).trans' g5 ai (fun x hx e=>av (G.of e)),by rw[E];exact CY⟩
   exact aq
  .rw[bU s,Bc] at E;simp[q5,q8,Jz,I,Zh,D,d,bk,r1,r2,o,rt,Ps,Pt,Z,s,wj,-ax,aH,cH,bw,Q,H,oA,o8];refine⟨(ps.zip row).length-(j+1),ab,j+1,L,rfl,ab,?_,ae,au I,g.trans ((ay.refl g.ok).var _ _),by rw[E];exact G.grow g.ok ((ay.refl g.ok).var _ _) ai⟩
   exact aq
 .have:j=(ps.zip row).length:=ab
  subst this;rw[jT] at G;simp only[wK] at d;simp[D,d];exact C _ _ L g (K.set) (au I) G
def HI{E:Enc α}{xs:List α}(a:bu E n0 h L.v xs)(e:eR L=some c):n0<=c:=by rcases a with⟨_,d⟩|⟨b,s,d,o,_,m⟩;simp at d;simp[eR,d] at e;simp at d;rw[cy d.1] at e;cases e;exact m
def KvL:List Nat:=[20,97,98,99,100,101,102,103,104,105,106,107,108,109,110,111,112,113,114,115,116]
def EA(y:YB):List Value:=[y.P.v,y.L.v,.int .i64 y.kind,.bool y.on.1,.int .i64 y.on.2,y.T.v]
def ou(y:YB)(i:Nat)(d:Int)(F:SV)(row:List (Bool×Int)):YB:= {y with ps:=y.ps.set i (⟨d,row⟩,F)}
def asf(h:az)(n0:Nat)(B:SV)(ys:List YB)(y:YB)(k i X sX:Nat)(dst:Int)(vs:List (Bool×Int))(e:Env)(m:Nat)(e':Env)(h':az):Prop:=
 ∃(j:Nat) (F:SV),m=vs.length-j/\j<=vs.length/\aM KvL e e'/\bJ e' 97 j/\bu cC h.aw h' F.v (vs.take j)/\cM h h' n0 B (ys.set k (ou y i dst cK [])) B (ys.set k (ou y i dst F (vs.take j)))
def UA(Q:cr h)(uU:n0<=h.aw){B:SV}{k i X sX d sd:Nat}{dst:Int}{xs:List (Int×(Bool×Int))}(hq:y.ps[i]?=some q)(hk:k<ys.length)(W0:FZ h n0 B (ys.set k (ou y i dst cK [])))(hX:fC h X (EA y) sX)(nX:¬cx B (ys.set k (ou y i dst cK [])) X)(hd:h.tr.get d=some (.bZ (iS.flat xs) false 3 sd))(nd:¬cx B (ys.set k (ou y i dst cK [])) d)(QH:xs.length<1000000)(f12:cm e 12 X)(f13:bJ e 13 i)(f95:bH e 95=.slice (some ⟨d,0,none⟩) xs.length xs.length)(f96:bJ e 96 xs.length)(f97:bJ e 97 0)(C:∀e' h' F,aM KvL e e'->cM h h' n0 B (ys.set k (ou y i dst cK [])) B (ys.set k (ou y i dst F (xs.map (·.2))))->QQ (.exit 8) e' h'):aO FF (.loop mr) e h QQ:=by
 have gh:=(di.mp hq).1;have hvl:(xs.map (·.2)).length=xs.length:=ae
 refine aO.loop (asf h n0 B ys y k i X sX dst (xs.map (·.2)) e) ?_ (n:=(xs.map (·.2)).length) ⟨0,cK,rfl,ab,aM.refl _ _,f97,.inl ⟨ae,rfl⟩,.refl W0 Q⟩;rintro m e' h'⟨j,F,rfl,hj,K,D,hA,T⟩;have ED:=K.at f12;have Hd:=K.at f13;have q95:=K.at f95;have Z:=K.at f96;have g:=T.g;have G:=g.ok;unfold mr;by_cases bk:j<xs.length
 .have wj:=cg ((j:Int)+1) ab ab;obtain⟨x,hx⟩:=aV xs j;have U:=g.get Q hd nd;have rx:=akm U hx;have hy:(ys.set k (ou y i dst F ((xs.map (·.2)).take j)))[k]?=some (ou y i dst F ((xs.map (·.2)).take j)):=by rw[fL,bM rfl,bM hk]
  have Y:=T.w.at hy;have E:(ou y i dst F ((xs.map (·.2)).take j)).ps[i]?=some (⟨dst,(xs.map (·.2)).take j⟩,F):=by simp[ou,gh]
  have hP':eo iG h' y.P (y.ps.set i (⟨dst,(xs.map (·.2)).take j⟩,F)):=Y.P;obtain⟨b,cs,o,s,kB,hb,hiA,dQ,cZ,fu⟩:=hP'.el E;have r1:=cZ 1 1 ag;simp[-ax] at r1;have gY:=hP'.len;simp at gY;have dj:=g.get Q hX nX;have eC:=dj;simp[EA] at eC;rw[kB,gY] at eC;have oX:=G.cn dj;have ob:=G.cn hb;have od:=G.cn U;have Ho:=G.st _ _ _ _ _ dj;have bP:(ou y i dst F ((xs.map (·.2)).take j)).loc .P=some b:=cy kB;have nXb:¬X=b:=fun e=>by rcases T.s b ⟨some (k,.P),by rw[cz hy];exact bP⟩ with h1|h1;exact nX (e▸h1);have:=Q.wf _ _ hX;omega
  have hif:i<y.ps.length:=gh;simp[ED,Hd,q95,Z,D,bk,rx,r1,hif,-ax,aH,cH,bw,ed,oX,ob,od,aF eC,aQ];obtain⟨J,e2⟩:∃J,J=tick (put (aK h' [.int .i64 0,.bool false,.int .i64 0] 0) h'.aw 0 [.int .i64 0,.bool false,.int .i64 0] [.int .i64 x.1,.bool x.2.1,.int .i64 x.2.2] 0):=⟨_,rfl⟩;have gv:ay aZ h' J:=by rw[e2];exact((ay.refl G).var _ _).tick
  have avB:J.aw=h'.aw+1:=by rw[e2];rfl
  rw[<-e2];have g3:=aN gv.ok (cC.enc x.2) 0;have Hk:=(hA.grow G gv ai).grow gv.ok g3 ai;have hw3:bj cC (aK J (cC.enc x.2) 0) (.slice (some ⟨J.aw,0,none⟩) 1 1) [x.2]:=dz (bz _ _ _);have ln:=g.aw;have tl:((xs.map (·.2)).take j).length=j:=by simp;omega
  obtain⟨v',h5,M,CY,g5,ID⟩:=fx (bytes:=16) g3.ok (z:=[.bool false,.int .i64 0]) rfl Hk hw3 ab ag (by simp;omega);rw[avB] at M;refine mn (aj M) ?_;obtain⟨V,rfl⟩:=bu.C5 CY;have lo:∀z,bt F.v z->h.aw<=z:=fun z u=>hA.of u;have nFb:¬bt F.v b:=fun u=>by have:=T.w.IP hy .P (.R i) b bP (by rw[YB.jN E];exact dq u);cases this
  have lX:X<h.aw:=Q.wf _ _ hX;have H:ay (bt F.v) h' h5:=(gv.ck.trans g3.ck).trans' g5 ai ai;have oJ:=H.get G dj (fun h=>av (lo X h));have hb5:=H.get G hb nFb;simp[EA] at oJ;rw[kB,gY] at oJ;have aco:sX<=h'.clock+1:=ab
  have hf:=dQ 1 1 ag;simp at hf;simp[oJ,aco,hif,hb5,hf,D,wj];have gw:ay (· =b) h5 (put h5 b (i*2+1) cs [.slice V.a V.l V.c] o):=aY g5.ok hb5;have tk:(xs.map (·.2)).take (j+1)=(xs.map (·.2)).take j++[x.2]:=by rw[lg,js,hx];rfl
  have hPf:=fu (⟨dst,(xs.map (·.2)).take (j+1)⟩,V) 1 [V.v] ae rfl (put h5 b (i*2+1) cs [.slice V.a V.l V.c] o) ⟨_,aP _ _ _ _ _ _⟩;rw[<-tk] at CY;have lV:∀z,eR V=some z->h'.aw<=z:=fun z u=>by rcases CY with⟨_,I⟩|⟨b',s',I,ia,_,_⟩;simp at I;simp[eR,I] at u;simp at I;rw[cy I.1] at u;cases u;have:=ID _ (eY I.1);simp at this;omega
  have XN:=CY.grow g5.ok gw (fun z u e=>by have:=lV z (dq u);have:=ob.lt;omega);have T':=T.row (p':=(⟨dst,(xs.map (·.2)).take (j+1)⟩,V)) uU hy E (H.trans' gw (fun z _ u=>.inl ⟨.R i,.inr rfl,by rw[YB.jN E];exact dq u⟩) (fun z _ e=>.inl ⟨.P,.inl rfl,by rw[e];exact bP⟩)) hPf (dI XN) (fun c hc=>.inr (lV c hc));refine⟨(xs.map (·.2)).length-(j+1),ab,j+1,V,rfl,ab,?_,ae,XN,?_⟩
  .exact aq
  simpa [ou] using T'
 .have:j=(xs.map (·.2)).length:=ab
  subst this;rw[jT] at T;simp only[hvl] at D;simp[Z,D];exact C _ _ F (K.set) T
structure HC(f:Int->Int)(pk:List Int)(N:Nat):Prop where
 nd:pk.Nodup
 inj:∀a∈pk,∀b∈pk,0<=f a->f a=f b->a=b
 lt:∀a∈pk,f a<N
def mi(f:Int->Int)(N:Nat)(pk:List Int)(p:GP):GP:=⟨p.dst,iC (fB f (pk.zip p.row)) N⟩
def HC.keys(K:HC f pk N)(E:row.length=pk.length):Inj (fB f (pk.zip row)).length (fB f (pk.zip row))/\∀x∈fB f (pk.zip row),0<=x.1/\x.1<N:=by
 have mem:∀x∈pk.zip row,x.1∈pk:=fun x d=>(List.of_mem_zip (a:=x.1) (b:=x.2) d).1;have D:(pk.zip row).map (·.1)=pk:=List.map_fst_zip ab;have C:(pk.zip row).Pairwise (fun a b=>a.1≠b.1):=by have:=K.nd;rw[<-D] at this;exact List.pairwise_map.1 this
 have u:(fB f (pk.zip row)).Pairwise (fun a b=>a.1≠b.1):=by unfold fB;rw[List.pairwise_filterMap];refine C.imp_of_mem fun {a b} ha hb eQ x d y m=>?_;split at d;split at m;cases d;cases m;rename_i h1 _;exact fun e=>eQ (K.inj _ (mem a ha) _ (mem b hb) h1 e);cases m;cases d
 refine⟨fun p q o s e=>?_,fun x d=>?_⟩;unfold kAt at e;rw[g_ o,g_ s] at e;simp at e;rcases Nat.lt_trichotomy p q with h|h|h;exact absurd e ((List.pairwise_iff_getElem.1 u) p q o s h);exact h;exact absurd e.symm ((List.pairwise_iff_getElem.1 u) q p s o h);unfold fB at d;obtain⟨y,m,e⟩:=List.mem_filterMap.1 d;split at e;cases e;exact⟨by assumption,K.lt _ (mem y m)⟩;cases e
def FZ.mo{B:SV}(w:FZ h n0 B ys)(d:cr h)(e:cx B ys c):c<h.aw:=by obtain⟨l,e⟩:=e;exact w.lt d e
def acD(G:cr h)(uU:n0<=h.aw){B:SV}{Lr:SV}{xs:List (Int×(Bool×Int))}(W:FZ h n0 B ys)(U:ys[k]?=some y)(I:y.ps[j]?=some q)(M:fC h X (EA y) sX)(nX:¬cx B ys X)(hL:Lr.v=.slice none 0 0/\xs=[]\/∃d sd,Lr.v=.slice (some ⟨d,0,none⟩) xs.length xs.length/\h.tr.get d=some (.bZ (iS.flat xs) false 3 sd)/\¬cx B ys d)(QH:xs.length<1000000)(D:cm e 12 X)(E:bJ e 13 j)(m:bH e 15=Lr.v)(C:∀e' h' F,aM KpT e e'->cM h h' n0 B ys B (ys.set k (ou y j q.1.dst F (xs.map (·.2))))->QQ .normal e' h'):aO FF On e h QQ:=by
 have bk:=(di.mp I).1;have oK:=(di.mp U).1;have Y:=W.at U;obtain⟨b,cs,o,s,kB,K,hjA,dQ,cZ,fu⟩:=Y.P.el I;have gY:=Y.P.len;have J:=M;simp[EA] at J;rw[kB,gY] at J;have Q:=dQ 1 1 ag;simp at Q;have bP:y.loc .P=some b:=cy kB;have gw:ay (· =b) h (put h b (j*2+1) cs [.slice none 0 0] o):=aY G K;have V:=fu (⟨q.1.dst,[]⟩,cK) 1 [.slice none 0 0] ae rfl (put h b (j*2+1) cs [.slice none 0 0] o) ⟨_,aP _ _ _ _ _ _⟩;have u:cM h _ n0 B ys B (ys.set k (ou y j q.1.dst cK [])):=(cM.refl W G).row uU U I (gw.cY (fun x _ e=>.inl ⟨.P,.inl rfl,by rw[e];exact bP⟩)) V (eo.nil _ _) (fun c hc=>by simp[eR,cK] at hc);have H:∀c,c<h.aw->¬cx B ys c->¬cx B (ys.set k (ou y j q.1.dst cK [])) c:=fun c hc hn h1=>(u.s c h1).elim hn ab;have oJ:=u.g.get G M nX;unfold On;rcases hL with⟨Z,rfl⟩|⟨d,sd,Z,hd,QI⟩
 .rw[Z] at m;simp[D,E,m,J,bk,K,Q];rw[AA];unfold mr;simp;refine C _ _ cK ?_ u
  repeat (refine aM.set ?_)
  exact aM.refl _ _
 .rw[Z] at m;have ID:=u.g.get G hd QI;simp[D,E,m,J,bk,K,Q];refine UA u.g.ok (av u.g.aw) I oK u.w oJ (H X (G.wf _ _ M) nX) ID (H d (G.wf _ _ hd) QI) QH (by simp[D]) (by simp[E]) ae ae ae ?_;intro e6 h6 F K6 T6;simp;refine C _ _ F (aM.trans ?_ (K6.cY)) (u.trans T6)
  repeat (refine aM.set ?_)
  exact aM.refl _ _
structure KZ(h1:az)(own:Nat->Prop)(n dA d8 n8:Nat)(ats:List Int)(ws:List SV)(ah:List (List Int)):Prop where
 nn:n<=1000
 hA:dg h1 dA (encI.flat ats)
 al:ats.length=n
 acc:mz encI n8 h1 d8 ws ah
 nA:¬own dA
 low:∀b,own b->b<n8
 rows:EF n ah
 short:∀ps∈ah,ps.length<50
def KZ.at{own:Nat->Prop}(k:KZ h1 own n dA d8 n8 ats ws ah)(d:cr h1)(g:ay own h1 h'):KZ h' own n dA d8 n8 ats ws ah:=by obtain⟨s,m⟩:=k.hA;exact⟨k.nn,⟨s,g.get d m k.nA⟩,k.al,k.acc.grow d g (fun b o h=>av (k.low b h)),k.nA,k.low,k.rows,k.short⟩
def ama(o:az)(n0:Nat)(B:SV)(ys:List YB)(y:YB)(k:Nat)(s:GP->GP)(e:Env)(m:Nat)(e':Env)(h':az):Prop:=
 ∃(j:Nat) (d:List (GP×SV)),m=y.ps.length-j/\j<=y.ps.length/\d.length=j/\aM KpL e e'/\bJ e' 56 j/\cM o h' n0 B ys B (ys.set k {y with ps:=d++y.ps.drop j})/\d.map (·.1)=((y.ps.map (·.1)).take j).map s
def Uz{h1 Q:az}(gi:cr h1){B0 B:SV}(VJ:KZ h1 (cx B0 gZ) n dA d8 n8 ats ws ah)(T0:cM h1 Q n0 B0 gZ B ys)(uU:n0<=h1.aw)(hy:ys[k]?=some y)(hX:fC Q X (EA y) sX)(nX:¬cx B ys X)(QO:ws[k]?=some wk)(SR:ah[k]?=some pk)(ju:∀q∈y.ps,q.1.row.length=pk.length)(aix:HC (kH ats) pk N)(hN:N<=1000)(wg:y.ps.length<1000000)(Ps:k<n)(f5:bH e 5=.slice (some ⟨dA,0,none⟩) n n)(f8:bH e 8=.slice (some ⟨d8,0,none⟩) n n)(f11:bJ e 11 k)(f12:cm e 12 X)(f54:bH e 54=y.P.v)(f55:bJ e 55 y.ps.length)(f56:bJ e 56 0)(C:∀e' h' qs,aM KpL e e'->cM Q h' n0 B ys B (ys.set k {y with ps:=qs})->qs.map (·.1)=(y.ps.map (·.1)).map (mi (kH ats) N pk)->QQ (.exit 4) e' h'):aO FF (.loop wE) e Q QQ:=by
 have Y:=T0.g.ok;have lnS:=T0.g.aw;have oK:=(di.mp hy).1;have Y0:=T0.w.at hy;have gY:=Y0.P.len;have self:ys.set k {y with ps:=[]++y.ps.drop 0} =ys:=by refine Cy fun m=>?_;rw[fL];by_cases e:k=m;subst e;rw[bM rfl,bM oK,hy];rfl;rw[bU e]
 refine aO.loop (ama Q n0 B ys y k (mi (kH ats) N pk) e) ?_ (n:=y.ps.length) ⟨0,[],rfl,ab,rfl,aM.refl _ _,f56,by rw[self];exact .refl T0.w Y,ae⟩;rintro m e' h'⟨j,d,rfl,hj,hd,K,q56,T,Md⟩;have g:=T.g;have bS:=g.ok;have ln:=g.aw;have q5:=K.at f5;have q8:=K.at f8;have Jz:=K.at f11;have ED:=K.at f12;have Zg:=K.at f54;have q55:=K.at f55;have B':=VJ.at gi (T0.trans T).g;have dj:=g.get Y hX nX;have lX:=Y.wf _ _ hX;rw[Yw];by_cases bk:j<y.ps.length
 .have wj:=cg ((j:Int)+1) ab ab;obtain⟨q,DQ⟩:=aV y.ps j bk;have hq:=j6 (qs:=y.ps) hd;rw[DQ] at hq;obtain⟨H,BG⟩:∃H:YB,H= {y with ps:=d++y.ps.drop j} :=⟨_,rfl⟩;rw[<-BG] at T;have ue:H.ps[j]?=some q:=by rw[BG];exact hq
  have yT:(ys.set k H)[k]?=some H:=by rw[fL,bM rfl,bM oK]
  have hd1:EA H=EA y:=by rw[BG];rfl
  have Y1:=T.w.at yT;have hql:=ju q (cN DQ);have nC:=(Y1.ps q (cN ue)).ap5;have hP1:eo iG h' y.P (d++y.ps.drop j):=by have:=Y1.P;rw[BG] at this;exact this
  obtain⟨b,cs,o,s,kB,hb,hjA,dQ,cZ,fu⟩:=hP1.el hq;have abF:=hP1.len;have QG:(d++y.ps.drop j).length=y.ps.length:=by simp;omega
  have r0:=cZ 0 2 ag;simp[-ax] at r0;simp at Zg;rw[kB,abF,QG] at Zg;have ni:=aD.len nC;simp[Zg,q55,q56,bk,r0,-ax,aH];refine aO.cut (fun h1=>ay aZ h' h1) ((ay.refl bS).var _ _) ?_;intro h2 g2;have T2:=T.ck g2;have B2:=VJ.at gi (T0.trans T2).g;obtain⟨sA,Ix⟩:=B2.hA;obtain⟨s8,h82⟩:=B2.acc.bZ;have zJ:=B2.short pk (cN SR);refine Ys g2.ok (n:=n) (c8:=n) (k:=k) (A:=q.2) B2.nn Ix B2.al h82 QO Ps (Nh B2.acc QO SR) ((B2.rows.row k pk SR).2) (nC.mono bS g2 fun _ _ h=>h) hql ab (au q5) (au q8) (au Jz) (by simp[cK]) ae (au ni) ae ?_;intro e3 h3 L g3 K3 D yR;have ef:ay aZ h' h3:=g2.trans g3;have T3:=T2.ck g3;have m12:=K3.at (t:=12) (ak ED);have m13:bH e3 13=.int .i64 j:=K3.at ae;have m56:=K3.at (t:=56) (ak q56);have K3':aM KpL e e3:=by
   refine aM.trans ?_ (K3.cY)
   exact aq
  have l3:=ef.aw;have l2:=g2.aw;obtain⟨asc,U⟩:=aix.keys hql;have hrn:(fB (kH ats) (pk.zip q.1.row)).length<50:=Nat.lt_of_le_of_lt (List.length_filterMap_le _ _) (by simp;omega);have mN:∀c,h'.aw<=c->¬cx B (ys.set k H) c:=fun c hc h=>av (T.w.mo bS h)
  have nX1:¬cx B (ys.set k H) X:=fun h=>(T.s X h).elim nX ab;have M:∀(E:az)(Z:Env)(xs:List (Int×(Bool×Int)))(Q2:bK->Env->az->Prop),ay (fun x=>h'.aw<=x) h3 E->xs.map (·.2)=iC (fB (kH ats) (pk.zip q.1.row)) N->xs.length<50->(L.v=.slice none 0 0/\xs=[]\/∃d sd,L.v=.slice (some ⟨d,0,none⟩) xs.length xs.length/\E.tr.get d=some (.bZ (iS.flat xs) false 3 sd)/\¬cx B (ys.set k H) d)->cm Z 12 X->bJ Z 13 j->bH Z 15=L.v->bJ Z 56 j->aM KpL e Z->(∀u G,bJ u 56 j->aM KpL e u->(∃J,J.length=j+1/\cM Q G n0 B ys B (ys.set k {y with ps:=J++y.ps.drop (j+1)})/\J.map (·.1)=((y.ps.map (·.1)).take (j+1)).map (mi (kH ats) N pk))->Q2 .normal u G)->aO FF On Z E Q2:=by
   intro E Z xs Q2 g4 hxv xG hLx k12 k13 awC k56 K4 HQ;have T4:=T3.go g4 (fun c hc=>⟨ab,mN c hc⟩);refine acD g4.ok (av T4.g.aw) T4.w yT ue (by rw[hd1];exact g4.get ef.ok (ef.get bS dj) ab) nX1 hLx ab k12 k13 awC ?_;intro u G F K6 T6;refine HQ u G (K6.at k56) (K4.trans (K6.cY)) ⟨d++[(⟨q.1.dst,iC (fB (kH ats) (pk.zip q.1.row)) N⟩,F)],au hd,?_,?_⟩
   .have:=T4.trans T6;rw[xF,hxv] at this;have I:ou H j q.1.dst F (iC (fB (kH ats) (pk.zip q.1.row)) N)= {y with ps:=(d++[(⟨q.1.dst,iC (fB (kH ats) (pk.zip q.1.row)) N⟩,F)])++y.ps.drop (j+1)} :=by rw[BG];unfold ou;dsimp only;rw[set_drop hd DQ]
    rw[I] at this;exact this
   rw[List.map_append,Md,lg,js,DQ,List.map_append];rfl
  have fin:∀(u:Env)(G:az),bJ u 56 j->aM KpL e u->(∃J,J.length=j+1/\cM Q G n0 B ys B (ys.set k {y with ps:=J++y.ps.drop (j+1)})/\J.map (·.1)=((y.ps.map (·.1)).take (j+1)).map (mi (kH ats) N pk))->∃m,m<y.ps.length-j/\ama Q n0 B ys y k (mi (kH ats) N pk) e m (Tr.set (Tr.set u 117 (.int .i64 ((j:Int)+1))) 56 (.int .i64 ((j:Int)+1))) G:=by intro u G a1 a2 ⟨J,a3,a4,a5⟩;exact⟨y.ps.length-(j+1),ab,j+1,J,rfl,bk,a3,aM.set (aM.set a2),ae,a4,a5⟩
  simp;rcases agi yR with⟨I,e0⟩|⟨dS,sd,I,hdS,hdn,eQ⟩;rw[I] at D;simp[D];refine bm.call (V:=fun _ E=>E=h3) (aj (adG h3)) ?_;rintro v E rfl;simp;refine M E _ [] _ (.refl ef.ok) (by rw[e0];unfold iC;simp[eS]) ae (.inl ⟨I,rfl⟩) (by simp[m12]) (by simp[m13]) (by rw[I];simp[D]) (au m56) (aM.set (aM.set K3')) ?_;intro u G a1 a2 a3;simp[a1,wj];exact fin u G a1 a2 a3;rw[I] at D;simp[D];refine bm.call (V:=fun _ E=>∃xs,aaR (fB (kH ats) (pk.zip q.1.row)) xs/\xs.length=(fB (kH ats) (pk.zip q.1.row)).length/\ay (· =dS) h3 E/\∃s,E.tr.get dS=some (.bZ (iS.flat xs) false 3 s)) (aj (Vp ef.ok hdS eQ hrn (fun x hx=>⟨(U x hx).1,av ((U x hx).2)⟩) asc)) ?_;rintro v E⟨xs,S,xG,g4,sd4,hd4⟩;simp;refine M E _ xs _ (g4.cY (fun x _ e=>ab)) (ZR S U) ab (.inr ⟨dS,sd4,by rw[xG];exact I,hd4,mN dS ab⟩) (by simp[m12]) (by simp[m13]) (by rw[I];simp[D]) (au m56) (aM.set (aM.set K3')) ?_;intro u G a1 a2 a3;simp[a1,wj];exact fin u G a1 a2 a3
 .have:j=y.ps.length:=ab
  subst this;rw[List.drop_length,Bc] at T;simp[q55,q56];exact C _ _ d (K.set) T (by rw[Md,pg ae])
structure EB(bs:List GB):Prop where
 n1:1<=bs.length
 n50:bs.length<50
 kind:∀b∈bs,(b.kind=1/\b.to=[])\/(b.kind=2/\∃t,b.to=[t])\/(b.kind=3/\∃t u,b.to=[t,u]/\t≠u)
 to:∀b∈bs,∀t∈b.to,1<=t/\t<bs.length
 rows:∀(i:Nat)(b:GB),bs[i]?=some b->∀p∈b.bD,p.row.length=(aX bs i).length
 pl:∀b∈bs,b.bD.length<100000
def EB.nd(w:EB bs){b:GB}(h:b∈bs):b.to.Nodup:=by rcases w.kind b h with⟨_,e⟩|⟨_,t,e⟩|⟨_,t,u,e,d⟩<;>rw[e]<;>simp[*]
def EB.two(w:EB bs){b:GB}(h:b∈bs):b.to.length<=2:=by rcases w.kind b h with⟨_,e⟩|⟨_,t,e⟩|⟨_,t,u,e,_⟩<;>rw[e]<;>simp
def EB.tok(w:EB bs):TOk (cw bs):=by
 have u:(cw bs).length=bs.length:=by simp[cw]
 have:=w.n50;refine⟨ab,fun o d=>?_,fun o d t s=>?_⟩<;>obtain⟨b,m,rfl⟩:=jo.1 d;exact w.two m;have:=w.to b m t s;omega
def EB.ends(w:EB bs):jB bs:=⟨av w.n50,fun _ h=>w.two h,fun b h t d=>av (w.to b h t d)⟩
def Xt(nd:l.Nodup)(h0:∀t∈l,0<=t)(u:Nat):(l.map Int.toNat).count u=if(u:Int)∈l then 1 else 0:=by
 induction l with
 |nil=>simp
 |cons x xs m=>
  obtain⟨h1,o⟩:=List.nodup_cons.1 nd;have:=m o (fun t s=>h0 t (uQ _ s));have D:=h0 x (h_ ..);rw[xX,List.count_cons,this];by_cases e:x=u
  subst e;simp[h1]
  .have d:¬x.toNat=u:=ab
   have C:¬(u:Int)=x:=fun h=>e h.symm;simp[d,C]
def EB.rowOf{bs:List GB}(w:EB bs)(u:Nat):∀k,k<=bs.length->Edge.rowOf (cw bs) u k=iZ bs k u
 |0,_=>rfl
 |k+1,h=>by
  obtain⟨b,d⟩:=aV bs k;have m:=cN d;unfold Edge.rowOf;rw[EB.rowOf w u k ab];unfold iZ;rw[List.range_succ,List.filter_append,List.map_append];congr 1;have s:((cw bs)[k]?).getD []=b.to:=by unfold cw;rw[js,d];rfl
  rw[s,Xt (w.nd m) (fun t o=>av (w.to b m t o))];by_cases e:(u:Int)∈b.to;simp[d,e];simp[d,e]
def EB.ahead(w:EB bs)(C:k<bs.length):(Edge.dO (cw bs))[k]?=some (aX bs k):=by
 have o:(cw bs).length=bs.length:=by simp[cw]
 obtain⟨D,d⟩:=aV (Edge.dO (cw bs)) k (by rw[Edge.mA];omega);rw[d,Edge.Xg (fun m s t u=>av (w.tok.to m s t u)) d,o,w.rowOf k _ (fh _)];rfl
def mU(bs:List GB)(b:Int):(aX bs b).Nodup:=by unfold aX iZ;exact(List.pairwise_map.2 ((List.nodup_range.filter _).imp fun h e=>h ab))
def cO{b a:Int} :a∈aX bs b↔ ∃i:Nat,a=i/\∃x,bs[i]?=some x/\b∈x.to:=by unfold aX iZ;simp only[jo,Ai,N4,decide_eq_true_eq];constructor;rintro⟨i,⟨_,h⟩,rfl⟩;exact⟨i,rfl,h⟩;rintro⟨i,rfl,x,h1,d⟩;exact⟨i,⟨(di.mp h1).1,x,h1,d⟩,rfl⟩
def Aa(bs:List GB)(b:Int):(aX bs b).length<=bs.length:=y9 bs bs.length b
def dY(f:Int->Int)(N:Nat)(pk:List Int)(b:GB):GB:=⟨b.bD.map (mi f N pk),b.list,b.kind,b.on,b.to.map f⟩
def noG:GB:=⟨[],[],0,(false,0),[]⟩
def bh(bs:List GB)(bp:List Nat):List GB:=bp.map fun k:Nat=>dY (aR (nI bp)) bp.length (aX bs k) ((bs[k]?).getD noG)
def UC{l:List (Int×(Bool×Int))}(h:∀x∈l,f x.1=f' x.1):fB f l=fB f' l:=by
 unfold fB;induction l with
 |nil=>rfl
 |cons x xs d=>
  rw[List.filterMap_cons,List.filterMap_cons,d (fun y m=>h y (uQ _ m)),h x (h_ ..)]
def UD{b:GB}(h1:∀x∈pk,f x=f' x)(d:∀x∈b.to,f x=f' x):dY f N pk b=dY f' N pk b:=by unfold dY mi;congr 1;refine List.map_congr_left fun p _=>?_;congr 2;exact UC fun x m=>h1 _ (List.of_mem_zip (a:=x.1) (b:=x.2) m).1;exact List.map_congr_left d
def MI(nd:bp.Nodup)(h:bp[i]?=some k):aR (nI bp) k=i:=by
 refine Av (Ja h) fun m C e=>?_;unfold nI at e;rw[js] at e;cases d:bp[m]? with
 |none=>rw[d] at e;cases e
 |some y=>
  rw[d] at e;have D:(y:Int)=k:=aj e
  have o:y=k:=ab
  subst o;have s:=(di.mp h).2;have u:=(di.mp d).2;have:=(List.getElem_inj nd).1 (s.trans u.symm);omega
def U2(h:k∉bp):aR (nI bp) k= -1:=by
 refine tv fun d=>?_;unfold nI at d;obtain⟨y,m,e⟩:=jo.1 d;have:y=k:=ab
 exact h (this▸m)
structure Ord(n:Nat)(bp:List Nat):Prop where
 nd:bp.Nodup
 lt:∀x∈bp,x<n
def Ord.len(o:Ord n bp):bp.length<=n:=by have:=gT_ o.nd (l₂:=List.range n) (fun x d=>N4.2 (o.lt x d));simpa using this
def Ord.place(o:Ord n bp)(u:Nat):(∃i:Nat,bp[i]?=some u/\aR (nI bp) u=i/\i<bp.length)\/(u∉bp/\aR (nI bp) u= -1):=by by_cases h:u∈bp;obtain⟨i,d⟩:=iI h;exact .inl ⟨i,d,MI o.nd d,(di.mp d).1⟩;exact .inr ⟨h,U2 h⟩
def Ord.key(o:Ord n bp){k:Int}(I:bs.length=n)(m:∀u:Nat,u<n->f u=aR (nI bp) u):HC f (aX bs k) bp.length:=by
 have up:∀a∈aX bs k,∃u:Nat,a=u/\u<n:=fun a d=>by obtain⟨i,rfl,x,h,_⟩:=cO.1 d;exact⟨i,rfl,by rw[<-I];exact(di.mp h).1⟩
 refine⟨mU _ _,fun a d b H h0 e=>?_,fun a d=>?_⟩
 .obtain⟨u,rfl,C⟩:=up a d;obtain⟨v,rfl,E⟩:=up b H;rw[m u C] at h0 e;rw[m v E] at e;rcases o.place u with⟨i,h1,s,_⟩|⟨_,s⟩
  .rcases o.place v with⟨j,D,G,_⟩|⟨_,G⟩
   .have:i=j:=ab
    subst this;rw[h1] at D;cases D;rfl
   omega
  omega
 obtain⟨u,rfl,C⟩:=up a d;rw[m u C];rcases o.place u with⟨i,h1,s,D⟩|⟨_,s⟩<;>omega
def Lj{ys:List α}{y:α}(d:ys[k]?=some y):ys.set k y=ys:=by refine Cy fun m=>?_;rw[fL];by_cases e:k=m;subst e;rw[bM rfl,bM (di.mp d).1,d];rw[bU e]
def ase(h:az)(n0:Nat)(B:SV)(ys:List YB)(y:YB)(k:Nat)(f:Int->Int)(e:Env)(m:Nat)(e':Env)(h':az):Prop:=
 ∃j:Nat,m=y.to.length-j/\j<=y.to.length/\aM KtL e e'/\bJ e' 122 j/\cM h h' n0 B ys B (ys.set k {y with to:=(y.to.take j).map f++y.to.drop j})
def acy(ok:cr h){B:SV}(uU:n0<=h.aw)(W:FZ h n0 B ys)(hA:fC h dA (encI.flat ats) sA)(x5:ats.length=n)(nA:¬cx B ys dA)(hy:ys[k]?=some y)(Oh:∀t∈y.to,0<=t/\t<n)(CD:y.to.length<1000000)(hn:n<1000000)(hX:fC h X (EA y) sX)(nX:¬cx B ys X)(f5:bH e 5=.slice (some ⟨dA,0,none⟩) n n)(f12:cm e 12 X)(J:bH e 120=y.T.v)(M:bJ e 121 y.to.length)(Q:bJ e 122 0)(C:∀e' h',aM KtL e e'->cM h h' n0 B ys B (ys.set k {y with to:=y.to.map (kH ats)})->QQ (.exit 10) e' h'):aO FF (.loop wD) e h QQ:=by
 have oK:=(di.mp hy).1;have Y:=W.at hy;have u5:=Y.T.len;refine aO.loop (ase h n0 B ys y k (kH ats) e) ?_ (n:=y.to.length) ⟨0,rfl,ab,aM.refl _ _,Q,by rw[show ys.set k {y with to:=(y.to.take 0).map (kH ats)++y.to.drop 0} =ys from Lj hy];exact .refl W ok⟩;rintro m e' h'⟨j,rfl,hj,K,H,T⟩;have q5:=K.at f5;have ED:=K.at f12;have E:=K.at J;have I:=K.at M;have g:=T.g;have bS:=g.ok;unfold wD;by_cases bk:j<y.to.length
 .have wj:=cg ((j:Int)+1) ab ab;obtain⟨t,U⟩:=aV y.to j bk;obtain⟨ht0,htn⟩:=Oh t (cN U);obtain⟨u,rfl⟩:∃u:Nat,t=u:=⟨t.toNat,ab⟩;have Pt:u<n:=ab
  obtain⟨d,D⟩:∃d,d=(y.to.take j).map (kH ats)++y.to.drop j:=⟨_,rfl⟩;rw[<-D] at T;have yT:(ys.set k {y with to:=d})[k]?=some {y with to:=d} :=by rw[fL,bM rfl,bM oK]
  have hT':eo encI h' y.T d:=(T.w.at yT).T;have G:((y.to.take j).map (kH ats)).length=j:=by simp;omega
  have awl:d[j]?=some (u:Int):=by rw[D,j6 G,U]
  obtain⟨b,cs,o,s,Bh,hb,hjA,dQ,cZ,fu⟩:=hT'.el awl;have r0:=cZ 0 1 ag;simp[-ax] at r0;have hA':=g.get ok hA nA;obtain⟨a,ha⟩:=aV ats u;have ra:=lQ hA' ha;have dj:=g.get ok hX nX;have V:=dj;simp[EA] at V E;rw[Bh,u5] at V E;have hf:=dQ 0 1 ag;simp at hf;have hXn:=aF V;simp[q5,ED,E,I,H,bk,r0,V,hXn,Pt,ra,hb,hf,wj,aQ,-ax];have gt:ay aZ h' (tick h'):=(ay.refl bS).tick;have bT:({y with to:=d} :YB).loc .T=some b:=cy Bh;have anJ:=fu a 0 [.int .i64 a] ae rfl (put (tick h') b j cs [.int .i64 a] o) ⟨(tick h').clock,ae⟩;have T2:=T.to uU yT (gt.ck.trans ((aY (off:=j) (vs:=[.int .i64 a]) gt.ok hb).cY (fun x _ e=>.inl ⟨.T,rfl,by rw[e];exact bT⟩))) anJ;rw[xF] at T2;refine⟨y.to.length-(j+1),ab,j+1,rfl,bk,?_,ae,?_⟩
  .exact aq
  .have Z:kH ats (u:Int)=a:=by simp[kH,ha]
   have e1:d.set j a=(y.to.take (j+1)).map (kH ats)++y.to.drop (j+1):=by rw[D,set_drop G U,lg,U,List.map_append];simp[Z]
   rw[e1] at T2;exact T2
 .have:j=y.to.length:=ab
  subst this;rw[jT,List.drop_length,Bc] at T;simp[I,H];exact C _ _ (K.set) T
def asi(h1:az)(n0 F R:Nat)(B O:SV)(s c8:Value)(f:Int->Int)(N:Nat)(ah:List (List Int))(bp:List Nat)(ys:List YB)(m:Nat)(e:Env)(h':az):Prop:=
 ∃(i:Nat) (o d:List YB) (A:SV),m=bp.length-i/\i<=bp.length/\cm e 2 F/\cm e 4 R/\bH e 5=s/\bH e 8=c8/\bH e 42=O.v/\bJ e 43 bp.length/\bJ e 44 i/\bH e 9=A.v/\cM h1 h' n0 B ys B o/\(∀c,bt A.v c->¬cx B o c)/\o.length=ys.length/\bu dZ h1.aw h' A.v d/\d.length=i/\(∀(j k:Nat)(a:YB),bp[j]?=some k->d[j]?=some a->o[k]?=some a)/\∀(k:Nat)(y z:YB),ys[k]?=some y->o[k]?=some z->(k∈bp.take i->∃pk,ah[k]?=some pk/\z.g=dY f N pk y.g)/\(k∉bp.take i->z=y)
def Oj(gi:cr h1){B:SV}(Y:KZ h1 (cx B ys) n dA d8 n8 ats ws ah)(yb:ys.length=n)(uU:n0<=h1.aw)(W:FZ h1 n0 B ys){p r:Int}(hF:fC h1 F (aC name p r B) sF)(nF:¬cx B ys F)(o:Ord n bp)(hNo:N=bp.length)(hO:bj encI h1 O.v (nI bp))(κO:bp≠[]->∀b,bt O.v b->¬cx B ys b)(Oh:∀y∈ys,y.to.length<1000000/\∀t∈y.to,0<=t/\t<n)(ju:∀(k:Nat)(y:YB)(pk:List Int),ys[k]?=some y->ah[k]?=some pk->HC (kH ats) pk N/\∀q∈y.ps,q.1.row.length=pk.length)(wg:∀y∈ys,y.ps.length<1000000){QQ:bK->Env->az->Prop}(f2:cm e 2 F)(f4:cm e 4 R)(f5:bH e 5=.slice (some ⟨dA,0,none⟩) n n)(f8:bH e 8=.slice (some ⟨d8,0,none⟩) n n)(f42:bH e 42=O.v)(f43:bJ e 43 bp.length)(f44:bJ e 44 0)(f9:bH e 9=cK.v)(C:∀e' h' u D A,cm e' 2 F->cm e' 4 R->bH e' 9=SV.v A->cM h1 h' n0 B ys B u->(∀c,bt (SV.v A) c->¬cx B u c)->bu dZ h1.aw h' (SV.v A) D->D.length=bp.length->(∀(j k:Nat)(a:YB),bp[j]?=some k->D[j]?=some a->u[k]?=some a)->(∀(k:Nat)(y z:YB),ys[k]?=some y->u[k]?=some z->k∈bp->∃pk,ah[k]?=some pk/\z.g=dY (kH ats) N pk y.g)->QQ (.exit 2) e' h'):aO FF (.loop wF) e h1 QQ:=by
 have hnn:=Y.nn;have hOl:O.l=bp.length:=by obtain⟨a,cap,e,_⟩:=id hO;simp[nI] at e;exact e.2.1
 have ahc:=o.len;have nd:=o.nd;refine aO.loop (asi h1 n0 F R B O (.slice (some ⟨dA,0,none⟩) n n) (.slice (some ⟨d8,0,none⟩) n n) (kH ats) N ah bp ys) ?_ (n:=bp.length)
  ⟨0,ys,[],cK,rfl,ab,f2,f4,f5,f8,f42,f43,f44,f9,.refl W gi,fun b hb=>(Dw rfl hb).elim,rfl,.inl ⟨rfl,rfl⟩,rfl,fun j k a _ h=>by simp at h,fun k r r' h1 d=>⟨fun h=>by simp at h,fun _=>by rw[h1] at d;cases d;rfl⟩⟩
 rintro m e' h'⟨i,u,D,A,rfl,hi,q2,q4,q5,q8,Z,WR,OE,q9,T,κA',wK,yR,Wk,acj,H⟩;have g:=T.g;have bS:=g.ok;unfold wF;by_cases gh:i<bp.length
 .have wi:=cg ((i:Int)+1) ab ab;obtain⟨k,hk⟩:=aV bp i gh;have Ps:=o.lt k (cN hk);obtain⟨y0,u9⟩:=aV ys k;obtain⟨J,yT⟩:=aV u k;have aok:k∉bp.take i:=by
   intro hm;obtain⟨j,hj⟩:=iI hm;rw[XJ] at hj;split at hj;have h1:=(di.mp hj).2;have d:=(di.mp hk).2;have:=(List.getElem_inj nd).1 (h1.trans d.symm);omega
   cases hj
  have er:=(H k y0 J u9 yT).2 aok;subst er;obtain⟨pk,SR⟩:=aV ah k (by rw[Y.rows.len];exact Ps);obtain⟨wk,QO⟩:=aV ws k (by rw[Y.acc.len,Y.rows.len];exact Ps);have hO':=Eo hO gi g (fun eQ b hb h=>κO (fun e=>eQ (by rw[e];rfl)) b hb h);obtain⟨bO,ajV,ah3,SN,_,_,av5⟩:=hO'.read (Ja hk);have ro:=av5 0 1 ag;simp[-ax,nI] at ro SN;have nz:=g.get gi hF nF;simp[aC] at nz;obtain⟨bB,cs,oB,sB,fp,Gg,hjB,dQ,cZ,fu⟩:=T.w.A.el yT;have dT:=T.w.A.len;have Ec:=cZ 0 6 ag;simp[-ax] at Ec;rw[fp,dT,wK,yb] at nz;simp at Z;rw[SN.1,hOl] at Z;have Y1:=T.w.at yT;have gY:=Y1.P.len;have u5:=Y1.T.len;have oF:=bS.cn nz;simp[q2,Z,WR,OE,gh,ro,nz,Ps,Ec,-ax,aH,aF nz,gY];refine aO.cut (fun d=>ay aZ h' d/\dg d h'.aw (EA J)) ?_ ?_
  refine⟨(ay.refl bS).var _ _,h'.clock,?_⟩;simp[bg,gY,EA];rintro d⟨g2,sX,eC⟩;have ln:=g.aw;have T2:=T.ck g2;have nX:¬cx B u h'.aw:=fun h=>av (T.w.mo bS h)
  obtain⟨aix,hpr⟩:=ju k J pk u9 SR;refine Uz gi Y T2 uU yT eC nX QO SR hpr aix ab (wg J (cN u9)) Ps (au q5) (au q8) ae ae (au gY) ae ae ?_;intro e3 h3 qs Q M Mq;have G3:=T2.trans M;have k2:=Q.at (t:=2) (ak q2);have k4:=Q.at (t:=4) (ak q4);have k5:=Q.at (t:=5) (ak q5);have k8:=Q.at (t:=8) (ak q8);have k9:=Q.at (t:=9) (ak q9);have k12:cm e3 12 h'.aw:=Q.at ae;have k42:=Q.at (t:=42) (ak Z);have k43:=Q.at (t:=43) (ak WR);have k44:=Q.at (t:=44) (ak OE);have hkC:k<u.length:=ab
  obtain⟨I,E⟩:∃I:YB,I= {J with ps:=qs} :=⟨_,rfl⟩;rw[<-E] at M G3;have hy3:(u.set k I)[k]?=some I:=by rw[fL,bM rfl,bM hkC]
  have Pp:EA I=EA J:=by rw[E];rfl
  have eD:=M.g.get g2.ok eC nX;have l2:=g2.aw;have low:∀(ws:List YB),cM d h3 n0 B u B ws->∀c,c<d.aw->¬cx B u c->¬cx B ws c:=fun ws T c G hn h=>(T.s c h).elim hn ab;have lX2:=g2.ok.wf _ _ eC;have KB3:=Y.at gi G3.g;obtain⟨sA3,Hk⟩:=KB3.hA;have nA:¬cx B (u.set k I) dA:=fun h=>(G3.s dA h).elim Y.nA (fun G=>by obtain⟨s,hA⟩:=Y.hA;have:=gi.wf _ _ hA;omega)
  obtain⟨CD,htr⟩:=Oh J (cN u9);have ajt:I.to=J.to:=by rw[E]
  have hT3:I.T.v=J.T.v:=by rw[E]
  have Qz:=eD;simp[EA] at Qz;simp[k12,Qz];refine acy G3.g.ok (n:=n) (av G3.g.aw) G3.w Hk Y.al nA hy3 (by rw[ajt];exact htr) (by rw[ajt];exact CD) ab (by rw[Pp];exact eD) (low _ M _ lX2 nX) (au k5) (au k12) (aj hT3.symm) (by simp[u5,ajt]) ae ?_;intro e4 h4 U T4;have G4:=G3.trans T4;have m2:=U.at (t:=2) (ak k2);have m4:=U.at (t:=4) (ak k4);have m5:=U.at (t:=5) (ak k5);have m8:=U.at (t:=8) (ak k8);have m9:=U.at (t:=9) (ak k9);have m12:cm e4 12 h'.aw:=U.at (ak k12);have m42:=U.at (t:=42) (ak k42);have m43:=U.at (t:=43) (ak k43);have m44:=U.at (t:=44) (ak k44);rw[xF] at G4;obtain⟨K,ey4⟩:∃K:YB,K= {I with to:=I.to.map (kH ats)} :=⟨_,rfl⟩;rw[<-ey4] at G4;have kR:=T4.g.get M.g.ok eD (low _ M _ lX2 nX);have e43:dZ.enc K=EA J:=by rw[ey4,E];rfl
  have XV:=kR;simp[EA] at XV m9;simp[m9,m12,XV];have lA':∀c,bt A.v c->c<h'.aw:=fun c G=>(dI yR).cn bS G;have amZ:ay (cx B u) h' h4:=(g2.ck.trans M.g).trans' T4.g ai (fun c G h=>(M.s c h).elim id (fun h=>ab));have anU:bu dZ h1.aw h4 A.v D:=yR.grow bS amZ (fun b hb h=>κA' b hb h);have g5:=aN G4.g.ok (dZ.enc K) 0;have CY:=anU.grow G4.g.ok g5 ai;have zK:bj dZ (aK h4 (dZ.enc K) 0) (.slice (some ⟨h4.aw,0,none⟩) 1 1) [K]:=dz (bz _ _ _);have lG4:=G4.g.aw;obtain⟨v',h6,ha6,XN,g6,hd6⟩:=fx (bytes:=96) g5.ok (z:=[.slice none 0 0,.slice none 0 0,.int .i64 0,.bool false,.int .i64 0,.slice none 0 0]) rfl CY zK ab ag (by simp;omega);refine cR (by rw[e43] at ha6;simpa [EA] using ha6) ?_;obtain⟨V,rfl⟩:=bu.C5 XN;have lG:=amZ.aw;have sub:∀c,cx B (u.set k K) c->cx B u c\/d.aw<=c:=fun c G=>by have:=M.trans T4;rw[xF,<-ey4] at this;exact this.s c G
  have T6:cM h1 h6 n0 B ys B (u.set k K):=(G4.ck g5).go g6 (fun c G=>⟨yR.of G,fun h=>by have:=lA' c G;exact(sub c h).elim (κA' c G) ab⟩);simp[m44,wi];refine⟨bp.length-(i+1),ab,i+1,u.set k K,D++[K],V,rfl,ab,au m2,au m4,au m5,au m8,by simp[m42,SN.1,hOl],au m43,ae,ae,T6,fun c G h=>?_,au wK,XN,au Wk,?_,?_⟩;have h5:=hd6 c G;have:=G4.w.mo G4.g.ok h;simp at h5;omega
  .intro j k' a h1 d;rw[fL];by_cases hj:j<i
   .rw[Iw ab] at d;have eQ:¬k=k':=fun e=>by subst e;have a1:=(di.mp h1).2;have a2:=(di.mp hk).2;have:=(List.getElem_inj nd).1 (a1.trans a2.symm);omega
    rw[bU eQ];exact acj j k' a h1 d
   .rw[Ke ab] at d;have hj0:j-D.length=0:=by have:=(di.mp d).1;simp at this;omega
    have hji:j=i:=ab
    subst hji;rw[hj0] at d;simp at d;rw[hk] at h1;cases h1;rw[bM rfl,bM hkC,d]
  intro k' a c h1 d;rw[lg,hk];rw[fL] at d;by_cases ek:k=k';subst ek;rw[bM rfl,bM hkC] at d;cases d;rw[u9] at h1;cases h1;refine⟨fun _=>⟨pk,SR,?_⟩,fun h=>absurd (List.mem_append_right _ ae) h⟩;rw[ey4,E];unfold dY YB.g;rw[Mq];rw[bU ek] at d;obtain⟨c1,c2⟩:=H k' a c h1 d;refine⟨fun h=>c1 ?_,fun h=>c2 (fun h'=>h (List.mem_append_left _ h'))⟩;rcases jS.1 h with h|h;exact h;simp at h;exact absurd h.symm ek
 .have:i=bp.length:=ab
  subst this;rw[jT] at H;simp[WR,OE];exact C _ _ u D A (au q2) (au q4) (au q9) T κA' yR Wk acj (fun k r r' h1 d=>(H k r r' h1 d).1)
def FZ.sel{B A:SV}{ys xs:List YB}(w:FZ h n0 B ys)(M:eo dZ h A xs)(f:Nat->Nat)(G:∀(i:Nat)(x:YB),xs[i]?=some x->ys[f i]?=some x)(H:∀i j:Nat,i<xs.length->j<xs.length->f i=f j->i=j)(u:∀c,eR A=some c->n0<=c/\¬cx B ys c):FZ h n0 A xs/\(∀c,cx A xs c->cx B ys c\/eR A=some c)/\(wI B ys->wI A xs):=by
 have key:∀(o:Option (Nat×Lo))(c:Nat),eV A xs o=some c->(o=none/\eR A=some c)\/∃i l,o=some (i,l)/\i<xs.length/\eV B ys (some (f i,l))=some c:=fun o c C=>by
  match o with
  |none=>exact .inl ⟨rfl,C⟩
  |some (i,l)=>
   obtain⟨x,h1,J⟩:=Ev.1 C;exact .inr ⟨i,l,rfl,(di.mp h1).1,by rw[cz (G i x h1)];exact J⟩
 have inj:∀p,Ks p (eV B ys)->Ks p (eV A xs):=fun p q a b c I E=>by rcases key a c I with⟨rfl,s⟩|⟨i,l,rfl,m,s⟩;rcases key b c E with⟨rfl,d⟩|⟨j,l',rfl,D,d⟩;exact .inl rfl;exact absurd ⟨_,d⟩ (u c s).2;rcases key b c E with⟨rfl,d⟩|⟨j,l',rfl,D,d⟩;exact absurd ⟨_,s⟩ (u c d).2;refine(q _ _ c s d).imp (fun e=>?_) id;simp only[mL,Aj] at e;rw[H i j m D e.1,e.2]
 refine⟨⟨M,fun y K=>?_,inj True w.inj,fun o c e=>?_⟩,fun c ⟨o,e⟩=>?_,inj False⟩;obtain⟨i,m⟩:=iI K;exact w.at (G i y m);rcases key o c e with⟨rfl,p⟩|⟨i,l,rfl,m,p⟩;exact(u c p).1;exact w.new _ c p;rcases key o c e with⟨rfl,p⟩|⟨i,l,rfl,m,p⟩;exact .inr p;exact .inl ⟨_,p⟩
def aaG(name:ByteArray)(p r:Int)(n0:Nat)(B:SV)(ys:List YB)(o:List GB)(h:az)(v:Value)(h':az):Prop:=
 ∃(d:SV) (m:List YB),v=.agg ⟨aC name p r d⟩/\cM h h' n0 B ys d m/\m.map YB.g=o
def IT(G:cr h){name:ByteArray}{p r:Int}{B O:SV}(W:FZ h n0 B ys)(uU:n0<=h.aw)(E:EB (ys.map YB.g))(o:Ord ys.length bp)(hO:bj encI h O.v (nI bp))(κO:bp≠[]->∀b,bt O.v b->¬cx B ys b):bc FF 137 [.agg ⟨aC name p r B⟩,O.v] h (aaG name p r n0 B ys (bh (ys.map YB.g) bp) h):=by
 have dT:=W.A.len;have LY:=E.n50;have C:O.l=bp.length:=by obtain⟨a,cap,e,_⟩:=id hO;simp[nI] at e;exact e.2.1
 have ahc:=o.len;simp only[KM] at LY;have mN:∀c,h.aw<=c->¬cx B ys c:=fun c m h1=>av (W.mo G h1)
 refine bc.of PZ ?_;unfold FX;have n2:¬h.aw=h.aw+1+1:=ab
 simp[aC,n2];refine bm.cut (fun h1=>ay aZ h h1/\(dg h1 h.aw (aC name p r B))/\(dg h1 (h.aw+1) [.string ⟨⟨[]⟩⟩,.int .i64 0,.int .i64 0,.slice none 0 0])/\(dg h1 (h.aw+1+1) [.int .i64 (-1)])) ?_ ?_;exact⟨(((ay.refl G).new _ _).new _ _).new _ _,⟨0,by simp[aC,n2]⟩,⟨0,ae⟩,⟨0,ae⟩⟩;rintro h1⟨M,⟨sF,yD⟩,⟨sR,Bg⟩,⟨s1,hm1⟩⟩;refine bm.call (V:=fun v h'=>ay aZ h1 h'/\∃d s,v=.slice (some ⟨d,0,none⟩) ys.length ys.length/\h1.aw<=d/\h'.tr.get d=some (.bZ (encI.flat (List.replicate ys.length (-1:Int))) false 0 s)) (by simpa [dT] using JG M.ok ys.length ab (x:= -1) hm1) ?_;rintro _ h2⟨g2,dA,sA,rfl,hdA,Ix⟩;have jC:=M.trans g2;have jz:=g2.get M.ok yD;have w_:=g2.get M.ok Bg;have lR:=M.ok.wf _ _ Bg;simp[C];refine afK jC.ok (n:=ys.length) o.nd o.lt ahc ab (hO.ck G jC) (fun b hb eQ e=>?_) Ix ae (au C) ae ae ?_
 .subst e;have gX:b<h.aw:=by
   obtain⟨off,nn,aeZ,K⟩:=hb;obtain⟨a,cap,e2,H⟩:=hO;rcases H with⟨h1,_⟩|⟨b2,YN,cs2,ro2,o2,st2,e3,pz,_⟩
   .have:(nI bp).length=0:=by rw[h1];rfl
    simp[nI] at this;exact absurd this eQ
   rw[K,e3] at e2;injection e2 with e2;cases e2;exact G.wf _ _ pz
  have:=M.aw;omega
 intro e3 h3 ats K3 g3 ⟨sA3,Hk⟩ x5 Kg hno;have Q:ay aZ h h3:=jC.trans' g3 ai (fun x H e=>av M.aw);have uT:=g3.get jC.ok jz ab;have Ew:=g3.get jC.ok w_ ab;have W3:=W.ck G Q;have Mb:∀u:Nat,u<ys.length->kH ats u=aR (nI bp) u:=fun u hu=>by unfold kH;simp only[gW_];rcases o.place u with⟨i,h1,h2,_⟩|⟨h1,h2⟩;rw[Kg i u h1,h2];rfl;rw[hno u hu h1,h2];rfl
 have k1:bH e3 1=O.v:=K3.at (au C);have k2:cm e3 2 h.aw:=K3.at ae;have k4:cm e3 4 (h.aw+1):=K3.at ae;have k5:bH e3 5=.slice (some ⟨dA,0,none⟩) ys.length ys.length:=K3.at ae;simp[aC] at uT;simp[k2,uT];refine bm.call (V:=fun v h'=>ay aZ h3 h'/\∃d ws,v=.slice (some ⟨d,0,none⟩) ys.length ys.length/\mz encI h3.aw h' d ws (Edge.dO (cw (ys.map YB.g)))) (by simpa [aC] using qG Q.ok (name:=name) (p:=p) (r:=r) W3.view E.ends) ?_;rintro _ h4⟨g4,d8,ws,rfl,w8⟩;have Z:=Q.trans g4;have BH:=g4.get Q.ok uT;have KP:=g4.get Q.ok Ew;have TO:=g4.get Q.ok Hk;have W4:=W.ck G Z;have qW:(ys.map YB.g).length=ys.length:=KM ..;have CD:(cw (ys.map YB.g)).length=ys.length:=by simp[cw]
 have RW:=adt E.tok;rw[CD] at RW;have ln1:=M.aw;have l2:=g2.aw;have l3:=g3.aw;have ln3:=Q.aw;have l4:=g4.aw;have yg:∀ {k:Nat} {y:YB},ys[k]?=some y->(ys.map YB.g)[k]?=some y.g:=fun h=>by rw[js,h];rfl
 have U:∀ {k:Nat} {pk:List Int},(Edge.dO (cw (ys.map YB.g)))[k]?=some pk->pk=aX (ys.map YB.g) k:=fun {k pk} h=>by have I:=(di.mp h).1;rw[Edge.mA,CD] at I;rw[E.ahead ab] at h;cases h;rfl
 have VJ:KZ h4 (cx B ys) ys.length dA d8 h3.aw ats ws (Edge.dO (cw (ys.map YB.g))):=⟨ab,⟨sA3,TO⟩,x5,w8,mN dA ab,fun b hb=>av (W.mo G hb),RW,fun ps ju=>by obtain⟨k,I⟩:=iI ju;rw[U I];have:=Aa (ys.map YB.g) k;omega⟩;simp[k1,C];refine Oj (R:=h.aw+1) Z.ok VJ rfl ab W4 BH (mN _ ab) o rfl (hO.ck G Z) κO (fun y Y=>?_) (fun k y pk I hp=>?_) (fun y Y=>?_) (au k2) (au k4) (au k5) ae (au C) ae ae (by simp[cK]) ?_;have hm:=EX (f:=YB.g) Y;refine⟨by have:y.to.length<=2:=E.two hm;omega,fun t ht=>?_⟩;have:=E.to _ hm t ht;rw[qW] at this;omega
 rw[U hp];refine⟨o.key qW Mb,fun q hq=>?_⟩;exact E.rows k y.g (yg I) q.1 (jo.2 ⟨q,hq,rfl⟩);have:=E.pl _ (EX (f:=YB.g) Y);simp[YB.g] at this;omega;intro e5 h5 zs D A q2 q4 q9 J κA5 yR Wk acj H5;have TV:=J.g.get Z.ok BH (mN _ ab);have Ak:=J.g.get Z.ok KP (mN _ ab);simp at q9;simp[q2,q4,q9,TV,Ak];have ln5:=J.g.aw;have axR:∀(i:Nat)(x:YB),D[i]?=some x->∃k,bp[i]?=some k/\zs[k]?=some x:=by
  intro i x H;have hi:i<bp.length:=by rw[<-Wk];exact(di.mp H).1
  exact⟨_,g_ hi,acj i _ x (g_ hi) H⟩
 obtain⟨WA,sA',xA⟩:=J.w.sel (dI yR) (fun i=>(bp[i]?).getD 0) (fun i x H=>by
  obtain⟨k,h1,h2⟩:=axR i x H;rw[h1];exact h2) (fun i j hi hj e=>by
  have G9:i<bp.length:=ab
  have X6:j<bp.length:=ab
  rw[g_ G9,g_ X6] at e;exact(List.getElem_inj o.nd).1 e) (fun c m=>by
  have:=HI yR m;refine⟨ab,?_⟩;rcases yR with⟨_,K⟩|⟨b,s,K,hb,_,_⟩;simp at K;simp[eR,K] at m;simp at K;rw[cy K.1] at m;cases m;exact κA5 _ (eY K.1))
 have T6:cM h h5 n0 B ys A D:=by refine((cM.refl W G).ck Z).step J.g (fun c m=>.inl m) ⟨WA,fun c m=>?_,fun h=>xA (J.x h)⟩;rcases sA' c m with h|h;exact J.s c h;exact .inr (HI yR h)
 have lA:∀c,cx A D c->c≠h.aw/\c≠h.aw+1:=fun c m=>by
  rcases sA' c m with h|h;rcases J.s c h with h|h;have:=W.mo G h;omega;omega
  have:=HI yR h;omega
 have gw:=((ay.refl J.g.ok).put (S:=fun x=>x=h.aw\/x=h.aw+1) (off:=3) (vs:=[Value.slice A.a A.l A.c]) ⟨_,TV⟩ (.inr (.inl rfl))).put (b:=h.aw+1) (off:=0) (cs:=[Value.string ⟨⟨[]⟩⟩,Value.int IntKind.i64 0,Value.int IntKind.i64 0,Value.slice none 0 0]) (o:=0) (vs:=[Value.string name,Value.int IntKind.i64 p,Value.int IntKind.i64 r,Value.slice A.a A.l A.c]) ⟨sR,au Ak⟩ (.inr (.inr rfl));generalize put (put h5 _ _ _ _ _) _ _ _ _ _=h6 at gw⊢;refine⟨A,D,by simp[aC],T6.go gw (fun c m=>⟨ab,fun h=>av (lA c h)⟩),?_⟩;unfold bh;refine Cy fun i=>?_;rw[js,js];rcases Gf i bp.length with hi|hi
 .obtain⟨k,I⟩:=aV bp i hi;obtain⟨x,H⟩:=aV D i;have Ps:=o.lt k (cN I);obtain⟨y,Y⟩:=aV ys k Ps;obtain⟨pk,SR,e⟩:=H5 k y x Y (acj i k x I H) (cN I);have hm:=EX (f:=YB.g) (cN Y);rw[H,I,Cx,Cx,e,U SR,yg Y];congr 1;refine UD (fun a ha=>?_) (fun a ha=>?_)
  obtain⟨u,rfl,z,hz,_⟩:=cO.1 ha;exact Mb u (by rw[<-qW];exact(di.mp hz).1);have:=E.to _ hm a ha;rw[qW] at this;obtain⟨u,rfl⟩:∃u:Nat,a=u:=⟨a.toNat,ab⟩;exact Mb u ab
 rw[wY ab,wY ab];rfl
def aeK(F:SV)(b o:Nat)(s:List (Bool×Int))(l:Nat)(h:az)(v:Value)(h':az):Prop:=
 ∃d:SV,v=d.v/\d.a=F.a/\d.l=l/\d.c=F.c/\ay (· =b) h h'/\∃m,h'.tr.get b=some (.bZ (cC.flat s) false o m)
def wo(r:List (Bool×Int))(j:Nat)(v:Bool×Int):List (Bool×Int):=r.take j++[v]++r.drop j
def pf(r:List (Bool×Int))(k:Nat):List (Bool×Int):=r.take k++r.drop (k+1)
def wU{r:List (Bool×Int)}(h:k<r.length):(pf r k).length=r.length-1:=by simp[pf];omega
def IQ{r:List (Bool×Int)}(h:j<=r.length):(wo r j v).length=r.length+1:=by simp[wo];omega
def Yn(ok:cr h){F:SV}{b o s:Nat}{z:Bool×Int}(I:F.a=some ⟨b,0,none⟩)(E:F.l=row.length)(M:F.c=(row++z::cj).length)(ho:o=0\/o=2)(C:h.tr.get b=some (.bZ (cC.flat (row++z::cj)) false o s)){x m xc Xc xs:Nat}{Xb:List Value}{y:Bool×Int}(hx:h.tr.get x=some (.bZ Xb false Xc xs))(hv:cD h x m 2=some [.bool y.1,.int .i64 y.2])(D:b≠x)(i:Nat)(H:i<=row.length)(dJ:F.l<1000000):bc FF 166 [F.v,.int .i64 i,.slice (some ⟨x,m,none⟩) 1 xc] h (aeK F b o (wo row i y++cj) (row.length+1) h):=by
 obtain⟨vs,d⟩:∃vs,vs=row++z::cj:=⟨_,rfl⟩;rw[<-d] at M C;have V:vs.length=row.length+(cj.length+1):=by rw[d];simp
 have Z:Nat.ble i F.l=true:=by simpa [E] using H
 have q2:Nat.blt F.l F.c=true:=by simp;omega
 have q3:(Nat.beq o 2||Nat.beq o 0)=true:=by rcases ho with rfl|rfl<;>rfl
 have q4:Nat.ble (0+F.c*2) (cC.flat vs).length=true:=by rw[cC.dV,M];simp
 have q5:Nat.beq b x=false:=by
  cases e:Nat.beq b x with
  |true=>exact absurd (rz e) D
  |false=>rfl
 have Y:Nat.blt F.l 1000000=true:=aj dJ
 have Q:vs.take i++[y]++(vs.drop i).take (F.l-i)=wo row i y:=by unfold wo;rw[d,List.take_append,List.drop_append,List.take_append,show i-row.length=0 by omega,List.length_drop,E,Nat.sub_self];simp[pg]
 have e1:Go.AI.aJ (cC.flat vs) [.bool y.1,.int .i64 y.2] 0 i F.l 2=cC.flat (vs.take i++[y]++(vs.drop i).take (F.l-i)):=by have J:=cC.iQ vs i;have K:=cC.mY vs i;have G:=cC.iQ (vs.drop i) (F.l-i);simp only[vq] at J K G;unfold Go.AI.aJ;rw[List.drop_zero,J,Hj,K,G,cC.d_,cC.d_,abp]
 have e2:bg (cC.flat vs) 0 (Go.AI.aJ (cC.flat vs) [.bool y.1,.int .i64 y.2] 0 i F.l 2)=cC.flat (wo row i y++cj):=by have:=Ep cC vs (vs.take i++[y]++(vs.drop i).take (F.l-i)) 0;rw[Nat.zero_mul,List.take_zero,List.nil_append,Hj,<-e1] at this;rw[this,Q,IQ H];congr 2;rw[d,List.drop_append];simp
 have hp:rmV 2 [F.v,.int .i64 i,.slice (some ⟨x,m,none⟩) 1 xc] h=some (.slice (some ⟨b,0,none⟩) (F.l+1) F.c,{put h b 0 (cC.flat vs) (Go.AI.aJ (cC.flat vs) [.bool y.1,.int .i64 y.2] 0 i F.l 2) o with aw:=h.aw+8}):=by show rmV 2 [.slice F.a F.l F.c,.int .i64 (.ofNat i),.slice (some ⟨x,m,none⟩) 1 xc] h=_;rw[I];simp only[rmV,C,hx,Z,q2,q3,q4,q5,Y,Nat.beq_refl,Bool.and_true,Bool.not_false,if_true,hv]
 refine bc.run pc hp ⟨⟨F.a,F.l+1,F.c⟩,au I,rfl,by rw[E],rfl,?_,h.clock,by rw[<-e2];simp[put,Tr.bN]⟩;have g:=aY (off:=0) (vs:=Go.AI.aJ (cC.flat vs) [.bool y.1,.int .i64 y.2] 0 i F.l 2) ok C;exact⟨Nat.le_add_right _ _,g.clock,fun u h1 U=>g.same u h1 U,⟨fun u o' h'=>Kf (g.ok.wf u o' h') (Nat.le_add_right _ _),g.ok.st⟩⟩
def aba(G:cr h){b o s c l k K N:Nat}(hc:c=vs.length)(hl:l<=c)(m:h.tr.get b=some (.bZ (cC.flat vs) false o s))(hk:k<l)(hK:K=k+1)(hN:N=l-1)(dJ:l<1000000):∃u,fS h [.bool false,.int .i64 0] 16 false (.slice (some ⟨b,0,none⟩) k c) (.slice (some ⟨b,K*2,none⟩) (l-K) (c-K))=some (.slice (some ⟨b,0,none⟩) N c,u)/\ay (· =b) h u/\∃s,u.tr.get b=some (.bZ (cC.flat (vs.take k++(vs.drop K).take (l-K)++vs.drop (k+(l-K)))) false o s):=by
 have d:((vs.drop K).take (l-K)).length=l-K:=by simp;omega
 have U:bj cC h (.slice (some ⟨b,K*2,none⟩) (l-K) (c-K)) ((vs.drop K).take (l-K)):=by refine⟨_,_,by rw[d],.inr ⟨b,K*2,_,_,_,_,rfl,m,?_,?_⟩⟩;rw[d,cC.dV,vq];omega;have H:=cC.mY vs K;have D:=cC.iQ (vs.drop K) (l-K);simp only[vq] at H D;rw[d,vq,H,D]
 unfold fS;rw[yj (E:=cC) (z:=[.bool false,.int .i64 0]) rfl U,d];dsimp only;rcases gp_ (l-K) with h0|h0
 .refine⟨h,?_,.refl G,s,by rw[h0];simpa using m⟩;have:N=k:=ab
  have q:k<=c:=ab
  rw[h0,this];simp[dy,q]
 .obtain⟨M,C⟩:∃M,M=l-K:=⟨_,rfl⟩;rw[<-C] at h0 d⊢;have I:roomy N=true:=by simp[roomy];omega
  have Y:roomy (N*16)=true:=by simp[roomy];omega
  have Q:N<=c:=ab
  have q2:¬M=0:=ab
  have Z:k+M=N:=ab
  have J:(cC.flat ((vs.drop K).take M)).length=M*2:=by rw[cC.dV,d,vq]
  have V:k*2+M*2<=vs.length*2:=ab
  refine⟨put h b (k*2) (cC.flat vs) (cC.flat ((vs.drop K).take M)) o,?_,aY G m,h.clock,?_⟩;simp[dy,I,Y,Q,q2,m,J,V,Z];rw[aP];have:=Ep cC vs ((vs.drop K).take M) k;rw[d] at this;simp only[vq] at this;rw[this]
def Xv(J:cr h){F:SV}{b o s:Nat}(M:F.a=some ⟨b,0,none⟩)(hl:F.l=row.length)(Q:F.c=(row++cj).length)(ho:o=0\/o=2)(u:h.tr.get b=some (.bZ (cC.flat (row++cj)) false o s))(k:Nat)(D:k<row.length)(dJ:F.l<1000000):bc FF 167 [F.v,.int .i64 k,.int .i64 ((k:Int)+1)] h (aeK F b o (pf row k++(false,0)::cj) (row.length-1) h):=by
 obtain⟨vs,d⟩:∃vs,vs=row++cj:=⟨_,rfl⟩;rw[<-d] at Q u;have hvl:vs.length=row.length+cj.length:=by rw[d];simp
 obtain⟨K,I⟩:∃K,K=k+1:=⟨_,rfl⟩;obtain⟨N,hN⟩:∃N,N=F.l-1:=⟨_,rfl⟩;have eK:((k:Int)+1)=(K:Int):=ab
 rw[eK];have C:F.l<=F.c:=ab
 have q1:K<=F.l:=ab
 have q2:k<=K:=ab
 have q3:((k:Int)==(K:Int))=false:=by simp;omega
 have q4:K<=F.c:=ab
 have q5:k<=F.l:=ab
 have q6:k<=F.c:=ab
 refine bc.of pb ?_;unfold iB;have G:(Nat.beq o 0||Nat.beq o 2)=true:=by rcases ho with rfl|rfl<;>rfl
 simp[M,q1,q2,q3,q4,q5,q6,G,C,u];obtain⟨Z,ea,H,s2,E⟩:=aba (N:=N) (bC J).ok Q C (aj u) ab I hN dJ;refine mn ea ?_;have V:vs.take k++(vs.drop K).take (F.l-K)++vs.drop (k+(F.l-K))=pf row k++(row++cj).drop N:=by unfold pf;rw[d,List.take_append,List.drop_append,List.take_append,show k-row.length=0 by omega,show K-row.length=0 by omega,show k+(F.l-K)=N by omega,List.length_drop,hl,Nat.sub_self,I];simp[pg]
 rw[V] at E;have e3:(pf row k++(row++cj).drop N).set N (false,0)=pf row k++(false,0)::cj:=by
  have U:(row++cj).drop N=(row++cj)[N]'(by simp;omega)::(row++cj).drop (N+1):=List.drop_eq_getElem_cons _;have h1:(row++cj).drop (N+1)=cj:=by rw[List.drop_append,show N+1-row.length=0 by omega,XH ab];rfl
  rw[List.set_append,bU (by rw[wU D];omega),wU D,show N-(row.length-1)=0 by omega,U,List.set_cons_zero,h1]
 have e4:(pf row k++(row++cj).drop N).length=vs.length:=by rw[LV,wU D];simp;omega
 have q8:N<=F.l:=ab
 have Y:N<=F.c:=ab
 have Aw:F.l-N=1:=ab
 have Jz:N*2+2<=(cC.flat (pf row k++(row++cj).drop N)).length:=by rw[cC.dV,e4,vq];omega
 have hr:jn [Value.bool false,Value.int IntKind.i64 0] 1=[.bool false,.int .i64 0]:=rfl;have m:=cC.qT (pf row k++(row++cj).drop N) N (false,0) ab;simp only[vq,wW] at m;rw[e3] at m;generalize cC.flat (pf row k++(row++cj).drop N)=cs at*;simp[G,q8,Y,Aw,Jz,C,E,hr];have g3:=aY (off:=N*2) (vs:=[.bool false,.int .i64 0]) H.ok E;exact⟨⟨some ⟨b,0,none⟩,N,F.c⟩,ae,M.symm,by show N=_;omega,rfl,((bC J).ck.trans H).trans g3,Z.clock,by rw[aP,m]⟩
def La(pk:List Int)(cn now:Int)(row:List (Bool×Int)):List (Bool×Int):=
 wo (pf row (aR pk cn).toNat) ((pk.filter fun a=>decide (a<now)&&a !=cn).length) ((row[(aR pk cn).toNat]?).getD (false,0))
def Zl(u:cr h){B:SV}(W:FZ h n0 B ys)(uU:n0<=h.aw){F X1 X2 y i k j sF:Nat}(hF:fC h F (aC name p rg B) sF)(nF:¬cx B ys F){r:YB}(J:ys[y]?=some r)(hq:r.ps[i]?=some q)(M:dg h X1 [.int .i64 q.1.dst,q.2.v])(H:dg h X2 [.bool v.1,.int .i64 v.2])(n2:¬cx B ys X2)(hk:k<q.1.row.length)(hj:j+1<=q.1.row.length)(hql:q.1.row.length<1000000)(gh:r.ps.length<1000000)(f0:cm e 0 F)(f8:bJ e 8 y)(f9:bJ e 9 k)(f10:bJ e 10 j)(f13:bJ e 13 i)(f14:cm e 14 X1)(f15:cm e 15 X2)(C:∀e' h' F',aM asD e e'->cM h h' n0 B ys B (ys.set y {r with ps:=r.ps.set i (⟨q.1.dst,wo (pf q.1.row k) j v⟩,F')})->QQ .normal e' h'):aO FF OI e h QQ:=by
 obtain⟨s1,M⟩:=M;obtain⟨s2,H⟩:=H;have R:=W.at J;have yU:=(di.mp J).1;have avi:=(di.mp hq).1;obtain⟨bB,cs,oB,sB,fp,Gg,hjB,dQ,cZ,fu⟩:=W.A.el J;have Ec:=cZ 0 1 ag;simp[-ax] at Ec;have Cz:=W.A.len;have jz:=hF;simp[aC] at jz;rw[fp,Cz] at jz;have aoN:=u.st _ _ _ _ _ hF;have awh:=u.st _ _ _ _ _ Gg;have IK:=u.st _ _ _ _ _ H;have oF:=u.cn hF;have oX2:=u.cn H;obtain⟨hVl,⟨_,_,hV0⟩|⟨b,o,s,cj,d,hVc,hb,ho⟩⟩:=R.ps q (cN hq)
 rw[hV0] at hk;simp at hk;have lR:r.loc (.R i)=some b:=by rw[YB.jN hq];exact cy d
 have Rw:cx B ys b:=⟨some (y,.R i),by rw[cz J];exact lR⟩;have gY:=R.P.len;have wk:=cg ((k:Int)+1) ab ab;simp at M;rw[d] at M;have zI:o=0\/o=2:=aj ho
 unfold OI;simp[f0,f8,f9,f10,f13,f14,f15,jz,yU,Ec,M,H,wk,-ax,aF jz,aF M,aF H,aQ,bw,oF,oX2];refine cu.cut (fun h2=>ay aZ h h2/\h.clock<=h2.clock/\h2.tr.get h.aw=some (.bZ [.bool v.1,.int .i64 v.2] false 0 0)) ?_ ?_;exact⟨(bC u).trans (aN (bC u).ok _ _),Nat.le_succ _,ae⟩;rintro h2⟨D,Po,Ua⟩;have pz:=D.get u hb;have TQ:=D.get u Gg;have N9:=D.get u jz;have auM:=D.get u H;refine cu.call (V:=aeK q.2 b o (pf q.1.row k++(false,0)::cj) (q.1.row.length-1) h2) (by simpa [d] using Xv D.ok (F:=q.2) d hVl (aj hVc) zI pz k hk ab) ?_;rintro _ h3⟨F3,rfl,I,hl3,hc3,E,s3,Pl⟩;have dl:=wU hk;have Z:¬h.aw=b:=fun e=>av (u.wf _ _ hb)
 have nb2:¬X2=b:=fun e=>n2 (e▸Rw);have nbF:¬F=b:=fun e=>nF (e▸Rw);have Q:¬bB=b:=fun e=>by have:=W.tf none (some (y,.R i)) b (by rw[<-e];exact cy fp) (by rw[cz J];exact lR);cases this
 have SO:=E.get D.ok Ua Z;have auN:=E.get D.ok auM nb2;have uT:=E.get D.ok N9 nbF;have KN:=E.get D.ok TQ Q;simp[f15,auN,SO,IK];have rY:cD h3 h.aw 0 2=some [.bool v.1,.int .i64 v.2]:=by rw[fD SO ae];rfl
 refine cu.call (V:=aeK F3 b o (wo (pf q.1.row k) j v++cj) ((pf q.1.row k).length+1) h3) (aj (Yn E.ok (F:=F3) (by rw[I,d]) ab (by simp[dl];omega) zI Pl SO rY (Ne.symm Z) j ab ab)) ?_;rintro _ h4⟨m,rfl,U,hl4,hc4,g4,s4,hb4⟩;have BH:=g4.get E.ok uT nbF;have KO:=g4.get E.ok KN Q;have g24:ay (· =b) h h4:=(D.ck.trans E).trans g4;have nbP:∀c,eR r.P=some c->c≠b:=fun c Y e=>by have:=W.IP J .P (.R i) b (by rw[<-e];exact Y) lR;cases this
 obtain⟨K,G,oP,sP,kB,DN,hjP,abZ,KW,ahg⟩:=(R.P.go u g24 (fun c Y e=>nbP c e Y)).el hq;have lP:r.loc .P=some K:=cy kB;have nPb:=nbP K (cy kB);have wa:=abZ 1 1 ag;simp at wa;have gw:ay (· =K) h4 (put h4 K (i*2+1) G [.slice m.a m.l m.c] oP):=aY g4.ok DN;have A5:=ahg (⟨q.1.dst,wo (pf q.1.row k) j v⟩,m) 1 [.slice m.a m.l m.c] ae rfl (put h4 K (i*2+1) G [.slice m.a m.l m.c] oP) ⟨_,aP _ _ _ _ _ _⟩;have il:(wo (pf q.1.row k) j v).length=(pf q.1.row k).length+1:=IQ ab;have AV:eo cC (put h4 K (i*2+1) G [.slice m.a m.l m.c] oP) m (wo (pf q.1.row k) j v):=⟨ab,.inr ⟨b,o,s4,cj,by rw[U,I,d],ab,gw.get g4.ok hb4 (Ne.symm nPb),ho⟩⟩;simp[BH,KO,aoN,awh,kB,gY,avi,DN,wa];refine C _ _ m ?_ ((cM.refl W u).row uU J hq (g24.trans' gw (fun c _ e=>.inl ⟨.R i,.inr rfl,by rw[e];exact lR⟩) (fun c _ e=>.inl ⟨.P,.inl rfl,by rw[e];exact lP⟩)) A5 AV (fun c Y=>.inl ?_))
 .repeat (refine aM.set ?_)
  exact aM.refl _ _
 rw[cy d];have e2:eR m=some b:=cy (by rw[U,I,d]);rw[<-Y,e2]
def asG(h:az)(n0:Nat)(B:SV)(ys:List YB)(y:Nat)(r:YB)(f:List (Bool×Int)->List (Bool×Int))(e:Env)(m:Nat)(e':Env)(h':az):Prop:=
 ∃(i:Nat) (d:List (GP×SV)),m=r.ps.length-i/\i<=r.ps.length/\d.length=i/\aM amf e e'/\bJ e' 69 i/\cM h h' n0 B ys B (ys.set y {r with ps:=d++r.ps.drop i})/\d.map (·.1)=((r.ps.map (·.1)).take i).map fun p=>⟨p.dst,f p.row⟩
def Zm(V:cr h){B:SV}(W:FZ h n0 B ys)(uU:n0<=h.aw){F y k j l sF:Nat}(hF:fC h F (aC name p rg B) sF)(nF:¬cx B ys F){r:YB}(hr:ys[y]?=some r)(hl:∀q∈r.ps,q.1.row.length=l)(hk:k<l)(hj:j+1<=l)(Ki:l<1000000)(wg:r.ps.length<1000000)(f0:cm e 0 F)(f8:bJ e 8 y)(f9:bJ e 9 k)(f10:bJ e 10 j)(f67:bH e 67=r.P.v)(f68:bJ e 68 r.ps.length)(f69:bJ e 69 0)(C:∀e' h' U,aM amf e e'->cM h h' n0 B ys B (ys.set y {r with ps:=U})->U.map (·.1)=(r.ps.map (·.1)).map (fun p=>⟨p.dst,wo (pf p.row k) j ((p.row[k]?).getD (false,0))⟩)->QQ (.exit 4) e' h'):aO FF (.loop rG) e h QQ:=by
 have yU:=(di.mp hr).1;refine aO.loop (asG h n0 B ys y r (fun row=>wo (pf row k) j ((row[k]?).getD (false,0))) e) ?_ (n:=r.ps.length) ⟨0,[],rfl,ab,rfl,aM.refl _ _,f69,by rw[show ys.set y {r with ps:=[]++r.ps.drop 0} =ys from Lj hr];exact .refl W V,ae⟩;rintro m e' h'⟨i,d,rfl,hi,hd,K,D,T,Md⟩;have g:=T.g;have H:=g.ok;have q0:=K.at f0;have q8:=K.at f8;have q9:=K.at f9;have Aw:=K.at f10;have u:=K.at f67;have G:=K.at f68;unfold rG;by_cases gh:i<r.ps.length
 .have wi:=cg ((i:Int)+1) ab ab;obtain⟨q,I⟩:=aV r.ps i gh;have hq:=j6 (qs:=r.ps) hd;rw[I] at hq;have hql:=hl q (cN I);obtain⟨s,o⟩:∃s:YB,s= {r with ps:=d++r.ps.drop i} :=⟨_,rfl⟩;rw[<-o] at T;have wh:(ys.set y s)[y]?=some s:=by rw[fL,bM rfl,bM yU]
  have ue:s.ps[i]?=some q:=by rw[o];exact hq
  have R:=T.w.at wh;have RP:eo iG h' r.P (d++r.ps.drop i):=by have:=R.P;rw[o] at this;exact this
  have AV:=R.ps q (cN ue);obtain⟨v,hv⟩:=aV q.1.row k;obtain⟨b,cb,ob',sb,E,hb,oK,_,av6,_⟩:=AV.el hv;have rv:=av6 0 2 ag;obtain⟨bP,csP,oP,sP,kB,DN,hjP,abZ,KW,ahg⟩:=RP.el hq;have r0:=KW 0 2 ag;simp[-ax] at r0 rv;have gY:=RP.len;have hdl:(d++r.ps.drop i).length=r.ps.length:=by simp;omega
  simp at u;rw[kB,gY,hdl] at u;have M:=H.cn hb;have Y:¬b=h'.aw:=av M.lt
  have Z:¬b=h'.aw+1:=av M.lt
  simp[u,G,D,q9,gh,oK,r0,rv,E,M,Y,Z,-ax,aH,cH,bw,aQ];refine aO.cut (fun J=>ay aZ h' J/\(dg J h'.aw [.int .i64 q.1.dst,q.2.v])/\dg J (h'.aw+1) [.bool v.1,.int .i64 v.2]) ?_ ?_
  .have n1:¬h'.aw=h'.aw+1:=ab
   exact⟨((ay.refl H).var _ _).var _ _,⟨h'.clock,by simp[bg,E,n1]⟩,⟨h'.clock+1,by simp[bg]⟩⟩
  rintro J⟨g2,E5,eC⟩;have ln:=g.aw;have lF:=V.wf _ _ hF;have mN:∀c,h'.aw<=c->¬cx B (ys.set y s) c:=fun c hc h=>av (T.w.mo H h)
  have Q:¬cx B (ys.set y s) F:=fun h=>(T.s F h).elim nF ab;have T2:=T.ck g2;refine Zl g2.ok T2.w (av T2.g.aw) (F:=F) (X1:=h'.aw) (X2:=h'.aw+1) (y:=y) (i:=i) (k:=k) (j:=j) (v:=v) (q:=q) (g2.get H (g.get V hF nF)) Q wh ue E5 eC (mN _ ab) ab ab ab (by rw[o];show(d++r.ps.drop i).length<_;omega) (au q0) (au q8) (au q9) (au Aw) ae ae ae ?_;intro e3 h3 F' K3 T3;have k69:=K3.at (t:=69) (ak D);have T4:=T2.trans T3;rw[xF] at T4;have e1:({s with ps:=s.ps.set i (⟨q.1.dst,wo (pf q.1.row k) j v⟩,F')} :YB)= {r with ps:=(d++[(⟨q.1.dst,wo (pf q.1.row k) j v⟩,F')])++r.ps.drop (i+1)} :=by rw[o];dsimp only;rw[set_drop hd I]
  rw[e1] at T4;simp[k69,wi];refine⟨r.ps.length-(i+1),ab,i+1,d++[(⟨q.1.dst,wo (pf q.1.row k) j v⟩,F')],rfl,gh,au hd,?_,ae,T4,?_⟩
  .refine aM.set (aM.set (aM.trans ?_ (K3.cY)))
   exact aq
  rw[List.map_append,Md,lg,js,I,List.map_append];simp[hv]
 .have:i=r.ps.length:=ab
  subst this;rw[List.drop_length,Bc] at T;simp[G,D];exact C _ _ d (aM.set K) T (by rw[Md,pg ae])
def GS(cn now:Int)(l:List Int):Nat:=(l.filter fun a=>decide (a<now)&&a !=cn).length
def amg(h:az)(ps:List Int)(cn now:Int)(e:Env)(m:Nat)(e':Env)(h':az):Prop:=
 ∃t:Nat,m=ps.length-t/\t<=ps.length/\aM RnC e e'/\bJ e' 45 t/\bJ e' 10 (GS cn now (ps.take t))/\h'=h
def U8{ps:List Int}(hW:bj encI h W.v ps)(hl:ps.length<1000000)(f1:bJ e 1 cn)(f2:bJ e 2 now)(U:bJ e 10 0)(f43:bH e 43=W.v)(f44:bJ e 44 ps.length)(Z:bJ e 45 0)(C:∀J,aM RnC e J->bJ J 10 (GS cn now ps)->QQ (.exit 2) J h):aO FF (.loop rH) e h QQ:=by
 have zF:W.l=ps.length:=by obtain⟨a,cap,e,_⟩:=id hW;simp at e;exact e.2.1
 refine aO.loop (amg h ps cn now e) ?_ (n:=ps.length) ⟨0,rfl,ab,aM.refl _ _,Z,U,rfl⟩;rintro m J h'⟨t,rfl,ht,K,M,s,rfl⟩;have V:=K.at f1;have q2:=K.at f2;have H:=K.at f43;have Q:=K.at f44;unfold rH;by_cases E:t<ps.length
 .have wt:=cg ((t:Int)+1) ab ab;have hjt:GS cn now (ps.take t)<=t:=sx (EW _ _) (by simp;omega);have wj:=cg ((GS cn now (ps.take t):Int)+1) ab ab;obtain⟨x,hx⟩:=aV ps t E;obtain⟨bW,YP,Xr,Ey,_,_,cZ⟩:=hW.read hx;have I:=cZ 0 1 ag;simp[-ax] at I Ey H;rw[Ey.1,zF] at H;have d:GS cn now (ps.take (t+1))=GS cn now (ps.take t)+(if decide (x<now)&&x !=cn then 1 else 0):=by unfold GS;rw[lg,hx,List.filter_append,LV];congr 1;cases hc:(decide (x<now)&&x !=cn)<;>simp[List.filter_cons,hc]
  have o:∀(u:Env),aM RnC e u->bJ u 45 ((t:Int)+1)->bJ u 10 (GS cn now (ps.take (t+1)))->∃m,m<ps.length-t/\amg h' ps cn now e m u h':=fun u K2 k45 Y=>⟨ps.length-(t+1),ab,t+1,rfl,E,K2,aj k45,Y,rfl⟩;by_cases D:x<now
  .by_cases c2:x=cn
   .have G:(x !=cn)=false:=by simp[c2]
    rw[G] at d;simp at d;simp[V,q2,H,Q,M,s,E,I,D,G,wt,-ax];refine o _ ?_ ae (by simp[s,d])
    exact aq
   .have G:(x !=cn)=true:=by simp[c2]
    rw[G] at d;simp[D] at d;simp[V,q2,H,Q,M,s,E,I,D,G,wt,wj,-ax];refine o _ ?_ ae (au d)
    exact aq
  .simp[D] at d;simp[V,q2,H,Q,M,s,E,I,D,wt,-ax];refine o _ ?_ ae (by simp[s,d])
   exact aq
 .have:t=ps.length:=ab
  subst this;rw[jT] at s;simp[Q,M];exact C _ (aM.set K) (au s)
def Bm(pk:List Int)(cn now:Int)(b:GB):GB:= {b with bD:=b.bD.map fun p=>⟨p.dst,La pk cn now p.row⟩}
def JD(bs:List GB)(cn now:Int)(to:List Int):List GB:=bs.mapIdx fun i b=>if(i:Int)∈to then Bm (aX bs i) cn now b else b
def Ef{b:GB}(h:bs[i]?=some b):(JD bs cn now to)[i]?=some (if(i:Int)∈to then Bm (aX bs i) cn now b else b):=by unfold JD;rw[List.getElem?_mapIdx,h];rfl
def JE(bs:List GB)(cn now:Int)(to:List Int):(JD bs cn now to).length=bs.length:=by simp[JD]
def Zk{i u:Nat}{b:GB}(h:to[i]?=some (u:Int))(d:bs[u]?=some b):JD bs cn now (to.take (i+1))=(JD bs cn now (to.take i)).set u (Bm (aX bs u) cn now b):=by
 refine Cy fun m=>?_;rw[fL];have o:=(di.mp d).1;by_cases e:u=m
 subst e;rw[bM rfl,bM (by rw[JE];exact o),Ef d,bM (by rw[lg,h];simp)]
 .rw[bU e];unfold JD;rw[List.getElem?_mapIdx,List.getElem?_mapIdx];congr 1;funext b';have:((m:Int)∈to.take (i+1))↔((m:Int)∈to.take i):=by rw[lg,h];simp;omega
  simp only[this]
def asH(h1:az)(n0:Nat)(B:SV)(ys:List YB)(o:Value)(F:Nat)(cn now:Nat)(T:SV)(to:List Int)(m:Nat)(e:Env)(h':az):Prop:=
 ∃(i:Nat) (d:List YB),m=to.length-i/\i<=to.length/\cm e 0 F/\bJ e 1 cn/\bJ e 2 now/\bH e 6=o/\bH e 28=T.v/\bJ e 29 to.length/\bJ e 30 i/\cM h1 h' n0 B ys B d/\d.map YB.g=JD (ys.map YB.g) cn now (to.take i)/\∀(k:Nat)(y z:YB),ys[k]?=some y->d[k]?=some z->z= {y with ps:=z.ps}
def OJ(K:cr h){B:SV}(W:FZ h n0 B ys)(uU:n0<=h.aw)(hF:fC h F (aC name p rg B) sF)(nF:¬cx B ys F){cn now:Nat}{ro:YB}(M:ys[cn]?=some ro)(E:EB (ys.map YB.g)):bc FF 196 [.pointer (some ⟨F,0,none⟩),.int .i64 cn,.int .i64 now] h (fun _ h'=>∃s,cM h h' n0 B ys B s/\s.map YB.g=JD (ys.map YB.g) cn now ro.to/\∀(k:Nat)(y z:YB),ys[k]?=some y->s[k]?=some z->z= {y with ps:=z.ps}):=by
 have CB:=(di.mp M).1;have Ro:=W.at M;have u5:=Ro.T.len;have qW:(ys.map YB.g).length=ys.length:=KM ..;have LY:=E.n50;rw[qW] at LY;have Y:∀ {k:Nat} {y:YB},ys[k]?=some y->(ys.map YB.g)[k]?=some y.g:=fun h=>by rw[js,h];rfl
 have I:=cN (Y M);have QI:ro.to.Nodup:=E.nd I;have htwo:ro.to.length<=2:=E.two I;have jz:=hF;simp[aC] at jz;refine bc.of KD ?_;unfold BE;simp[jz];refine bm.call (V:=fun v h'=>ay aZ h h'/\∃d ws,v=.slice (some ⟨d,0,none⟩) ys.length ys.length/\mz encI h.aw h' d ws (Edge.dO (cw (ys.map YB.g)))) (by simpa [aC] using qG K (name:=name) (p:=p) (r:=rg) W.view E.ends) ?_;rintro _ h1⟨C,d,ws,rfl,w1⟩;have W1:=W.ck K C;have yD:=C.get K jz;have aua:=C.get K hF;obtain⟨bB,cs,oB,sB,fp,Gg,hjB,dQ,cZ,fu⟩:=W1.A.el M;have Ec:=cZ 5 1 ag;simp[-ax] at Ec;have Cz:=W1.A.len;rw[fp,Cz] at yD;simp[yD,CB,Ec,u5,-ax,aF yD];have apX:(ys.map YB.g)=JD (ys.map YB.g) cn now (ro.to.take 0):=by refine Cy fun m=>?_;unfold JD;rw[List.getElem?_mapIdx];simp;rfl
 refine aO.loop (asH h1 n0 B ys (.slice (some ⟨d,0,none⟩) ys.length ys.length) F cn now ro.T ro.to) ?_ (n:=ro.to.length)
  ⟨0,ys,rfl,ab,ae,ae,ae,ae,au u5,ae,ae,.refl W1 C.ok,apX,fun k y z a b=>by rw[a] at b;cases b;rfl⟩
 rintro m e' h'⟨i,s,rfl,hi,q0,q1,q2,q6,JA,G,H,T,Mz,HT⟩;have g:=T.g;have bS:=g.ok;have wK:s.length=ys.length:=by have:=congrArg List.length Mz;simp[JE] at this;exact this
 unfold yI;by_cases gh:i<ro.to.length
 .have wi:=cg ((i:Int)+1) ab ab;obtain⟨t,ht⟩:=aV ro.to i gh;have htb:=E.to _ I t (cN ht);rw[qW] at htb;obtain⟨u,rfl⟩:∃u:Nat,t=u:=⟨t.toNat,ab⟩;have Pt:u<ys.length:=ab
  obtain⟨r0,IE⟩:=aV ys u Pt;obtain⟨r1,yE⟩:=aV s u;have avG:(u:Int)∉ro.to.take i:=fun hm=>by
   obtain⟨j,hj⟩:=iI hm;rw[XJ] at hj;split at hj;have a1:=(di.mp hj).2;have a2:=(di.mp ht).2;have:=(List.getElem_inj QI).1 (a1.trans a2.symm);omega
   cases hj
  have eg:r1.g=r0.g:=by
   have h1:(s.map YB.g)[u]?=some r1.g:=by rw[js,yE];rfl
   rw[Mz,Ef (Y IE),bU avG] at h1;exact(Option.some.inj h1).symm
  have SR:=E.ahead (k:=u) ab;obtain⟨pk,o⟩:∃pk,pk=aX (ys.map YB.g) u:=⟨_,rfl⟩;rw[<-o] at SR;obtain⟨wk,QO⟩:=aV ws u (by rw[w1.len];exact(di.mp SR).1);have Bk:(cn:Int)∈pk:=by rw[o];exact cO.2 ⟨cn,rfl,ro.g,Y M,cN ht⟩
  have avT:pk.Nodup:=by rw[o];exact mU _ _
  have hpkl:pk.length<=2000:=by have:=Aa (ys.map YB.g) u;rw[<-o] at this;omega
  have w':=w1.grow C.ok g (fun b hb h=>av (W.mo K h));obtain⟨sd,hd⟩:=w'.bZ;have U:=CK hd QO;have ez:∀ {k:Nat} {z:YB},s[k]?=some z->∃y,ys[k]?=some y:=fun {k z} h=>⟨_,g_ (av ((di.mp h).1))⟩;obtain⟨zo,Z⟩:=aV s cn;have hTo:zo.to=ro.to/\zo.T=ro.T:=by
   refine⟨?_,by rw[HT cn ro zo M Z]⟩;have h1:(s.map YB.g)[cn]?=some zo.g:=by rw[js,Z];rfl
   rw[Mz,Ef (Y M)] at h1;have h2:zo.g.to=ro.g.to:=by rw[<-Option.some.inj h1];split<;>rfl
   exact h2
  have hTs:bj encI h' ro.T.v ro.to:=by have:=(T.w.at Z).T.sl;rw[hTo.1,hTo.2] at this;exact this
  obtain⟨bT,ajW,capT,hTv,_,_,Of⟩:=hTs.read ht;have rt:=Of 0 1 ag;simp[-ax] at rt hTv U;simp at JA;rw[hTv.1,u5] at JA;simp[q6,q1,JA,G,H,gh,rt,U,Pt,-ax];have Q:bj encI h' wk.v pk:=(w'.acc u wk pk QO SR).sl;refine bm.call (V:=fun v h2=>h2=h'/\∃k:Nat,v=.int .i64 k/\pk[k]?=some (cn:Int)) (aj (QT Q ab Bk)) ?_;rintro _ h2⟨rfl,k,rfl,hk⟩;have oK:=(di.mp hk).1;have wg:aR pk cn=k:=Av hk fun m hm e=>by have a1:=(di.mp hk).2;have a2:=(di.mp e).2;have:=(List.getElem_inj avT).1 (a1.trans a2.symm);omega
  have Pu:wk.l=pk.length:=by obtain⟨a,cap,e,_⟩:=id Q;simp at e;exact e.2.1
  simp[q6,q1,JA,G,H,U,Pt,-ax];refine U8 (cn:=cn) (now:=now) Q ab (au q1) (au q2) ae ae (au Pu) ae ?_;intro e3 D k10;have hj:GS cn now pk<pk.length:=List.length_filter_lt_length_iff_exists.2 ⟨cn,Bk,ae⟩;have k0:=D.at (t:=0) (ak q0);have k1:=D.at (t:=1) (ak q1);have k2:=D.at (t:=2) (ak q2);have k6:=D.at (t:=6) (ak q6);have k8:bH e3 8=.int .i64 u:=D.at ae;have k9:bH e3 9=.int .i64 k:=D.at ae;have k28:=D.at (t:=28) (ak JA);have k29:=D.at (t:=29) (ak G);have k30:=D.at (t:=30) (ak H);have nF1:¬cx B s F:=fun h=>(T.s F h).elim nF (by have:=K.wf _ _ hF;have:=C.aw;omega);have nz:=g.get C.ok yD nF;have uT:=g.get C.ok aua nF;obtain⟨PK,wT,oB',sB',wZ,hBb',hjB',Ma,yS,ahf⟩:=T.w.A.el yE;rw[fp] at wZ;cases wZ;have rd1:=yS 0 1 ag;simp[-ax] at rd1;have R1:=T.w.at yE;have gY:=R1.P.len;simp[k0,k8,nz,Pt,rd1,gY,-ax,aF nz];have avZ:=cN (Y IE);have ju:r1.ps.map (·.1)=r0.ps.map (·.1):=congrArg GB.bD eg;refine Zm bS T.w (by have:=C.aw;have:=g.aw;omega) (F:=F) (y:=u) (k:=k) (j:=GS cn now pk) (l:=pk.length) uT nF1 yE (fun q hq=>?_) oK ab ab ?_ (au k0) (au k8) (au k9) (au k10) (au gY) ae ae ?_
  .have hm:q.1∈r0.g.bD:=by show q.1∈r0.ps.map (·.1);rw[<-ju];exact jo.2 ⟨q,hq,rfl⟩
   rw[E.rows u r0.g (Y IE) q.1 hm,o]
  have:=E.pl _ avZ;have h2:=congrArg List.length ju;simp at h2;simp[YB.g] at this;omega
  intro e4 h4 qs J T4 Mq;have m0:=J.at (t:=0) (ak k0);have m1:=J.at (t:=1) (ak k1);have m2:=J.at (t:=2) (ak k2);have m6:=J.at (t:=6) (ak k6);have m28:=J.at (t:=28) (ak k28);have m29:=J.at (t:=29) (ak k29);have m30:=J.at (t:=30) (ak k30);simp[m30,wi];refine⟨ro.to.length-(i+1),ab,i+1,s.set u {r1 with ps:=qs},rfl,gh,au m0,au m1,au m2,au m6,by simp[m28,hTv.1,u5],au m29,ae,T.trans T4,?_,fun k y z a b=>?_⟩
  rw[List.map_set,Mz,Zk ht (Y IE),<-eg,<-o];congr 1;unfold Bm La YB.g;simp only[wg,gW_];rw[Mq];rfl
  .rw[fL] at b;by_cases e:u=k;subst e;rw[bM rfl,bM ab] at b;cases b;have:=HT u y r1 a yE;rw[this]
   rw[bU e] at b;exact HT k y z a b
 .have:i=ro.to.length:=ab
  subst this;rw[jT] at Mz;simp[G,H];exact⟨s,((cM.refl W K).ck C).trans T,Mz,HT⟩
def rh:GB:=⟨[],[],1,(false,0),[]⟩
structure dm(bs:List GB)(b t:Nat)(B T:GB):Prop where
 hb:bs[b]?=some B
 ht:bs[t]?=some T
 k2:B.kind=2
 to:B.to=[(t:Int)]
 ne:t≠b
 ph:T.bD=[]
 one:(aX bs t).length<=1
def dG(bs:List GB)(b t:Nat)(B T:GB)(i:Nat)(X:GB):GB:=
 if i=t then rh else if i=b then⟨(if(i:Int)∈T.to then Bm (aX bs i) t b X else X).bD,B.list++T.list,T.kind,T.on,T.to⟩ else if(i:Int)∈T.to then Bm (aX bs i) t b X else X
def stepG(bs:List GB)(b t:Nat)(B T:GB):List GB:=bs.mapIdx fun i X=>dG bs b t B T i X
def gz{b t:Nat}{B T X:GB}(h:bs[i]?=some X):(stepG bs b t B T)[i]?=some (dG bs b t B T i X):=by unfold stepG;rw[List.getElem?_mapIdx,h];rfl
def gO(bs:List GB)(b t:Nat)(B T:GB):(stepG bs b t B T).length=bs.length:=by simp[stepG]
def fH{b t:Nat}{B T Y:GB}(h:(stepG bs b t B T)[i]?=some Y):∃X,bs[i]?=some X/\Y=dG bs b t B T i X:=by obtain⟨X,d⟩:=aV bs i (by rw[<-gO bs b t B T];exact(di.mp h).1);rw[gz d] at h;cases h;exact⟨X,d,rfl⟩
def dD(bs:List GB)(b t:Nat)(B T:GB)(i:Nat)(X:GB):(dG bs b t B T i X).to=if i=t then [] else if i=b then T.to else X.to:=by unfold dG;split;rfl;split;rfl;split<;>rfl
def dL(bs:List GB)(b t:Nat)(B T:GB)(i:Nat)(X:GB):(dG bs b t B T i X).kind=if i=t then 1 else if i=b then T.kind else X.kind:=by unfold dG;split;rfl;split;rfl;split<;>rfl
def ky{b t:Nat}{B T:GB}{X:GB}(h:i≠t):(dG bs b t B T i X).bD=(if(i:Int)∈T.to then Bm (aX bs i) t b X else X).bD:=by unfold dG;rw[bU h];split;rfl;rfl
section
variable{bs:List GB}{b t:Nat}{B T:GB}
def dm.ZP(c:dm bs b t B T){X:GB}(h:bs[j]?=some X)(s:(t:Int)∈X.to):j=b:=by
 have h1:(b:Int)∈aX bs t:=cO.2 ⟨b,rfl,B,c.hb,by rw[c.to];simp⟩;have m:(j:Int)∈aX bs t:=cO.2 ⟨j,rfl,X,h,s⟩;have o:=c.one
 match d:aX bs t with
 |[]=>rw[d] at h1;simp at h1
 |[x]=>rw[d] at h1 m;simp at h1 m;omega
 |x::y::l=>rw[d] at o;simp at o
def dm.self(c:dm bs b t B T):(t:Int)∉T.to:=fun h=>c.ne (c.ZP c.ht h)
def dm.not(c:dm bs b t B T)(h:i≠t):(b:Int)∉aX bs i:=fun o=>by
 obtain⟨j,e,X,d,m⟩:=cO.1 o;have:j=b:=ab
 subst this;rw[c.hb] at d;cases d;rw[c.to] at m;simp at m;omega
def dm.mem(c:dm bs b t B T)(h:i≠t) :a∈aX (stepG bs b t B T) i↔(a=b/\(i:Int)∈T.to)\/(a≠t/\a∈aX bs i):=by rw[cO];constructor;rintro⟨j,rfl,Y,C,d⟩;obtain⟨X,m,rfl⟩:=fH C;rw[dD] at d;by_cases o:j=t;rw[bM o] at d;simp at d;rw[bU o] at d;by_cases s:j=b;rw[bM s] at d;exact .inl ⟨ab,d⟩;rw[bU s] at d;exact .inr ⟨ab,cO.2 ⟨j,rfl,X,m,d⟩⟩;rintro(⟨rfl,d⟩|⟨D,d⟩);exact⟨b,rfl,_,gz c.hb,by rw[dD,bU (Ne.symm c.ne),bM rfl];exact d⟩;obtain⟨j,rfl,X,m,u⟩:=cO.1 d;refine⟨j,rfl,_,gz m,?_⟩;rw[dD,bU ab,bU (fun e=>by subst e;exact c.not h d)];exact u
def dm.O9(c:dm bs b t B T) :(t:Int)∈aX bs i↔(i:Int)∈T.to:=by
 rw[cO];constructor
 .rintro⟨j,e,X,d,m⟩;have:j=t:=ab
  subst this;rw[c.ht] at d;cases d;exact m
 exact fun h=>⟨t,rfl,T,c.ht,h⟩
def dm.perm(c:dm bs b t B T)(h:i≠t):(aX (stepG bs b t B T) i).Perm ((aX bs i).map fun a:Int=>if a=t then(b:Int) else a):=by refine(List.perm_ext_iff_of_nodup (mU _ _) ?_).2 fun a=>?_;refine List.pairwise_map.2 ((mU bs i).imp_of_mem fun {x y} o hy eQ e=>?_);by_cases d:x=t;by_cases m:y=t;exact eQ (d.trans m.symm);rw[bM d,bU m] at e;exact c.not h (e▸hy);by_cases m:y=t;rw[bU d,bM m] at e;exact c.not h (e▸o);rw[bU d,bU m] at e;exact eQ e;rw[c.mem h,jo];constructor;rintro(⟨rfl,s⟩|⟨u,s⟩);exact⟨t,c.O9.2 s,bM rfl⟩;exact⟨a,s,bU u⟩;rintro⟨x,o,e⟩;by_cases d:x=t;rw[bM d] at e;exact .inl ⟨e.symm,c.O9.1 (d▸o)⟩;rw[bU d] at e;exact .inr ⟨e▸d,e▸o⟩
def dm.aeS(c:dm bs b t B T)(h:i≠t):(aX (stepG bs b t B T) i).length=(aX bs i).length:=by rw[(c.perm h).length_eq,KM]
def Jv(h:x∈pk):∃k:Nat,aR pk x=k/\pk[k]?=some x/\k<pk.length:=by
 induction pk with
 |nil=>simp at h
 |cons y ys d=>
  unfold aR;by_cases e:y=x;exact⟨0,by rw[bM e];rfl,au e,ae⟩;obtain⟨k,h1,m,o⟩:=d ((List.mem_cons.1 h).resolve_left (Ne.symm e));exact⟨k+1,by rw[bU e,h1,bU ab];rfl,aj m,by simp;omega⟩
def aeV(h:cn∈pk):GS cn now pk<pk.length:=List.length_filter_lt_length_iff_exists.2 ⟨cn,h,ae⟩
def acS(h:cn∈pk)(d:row.length=pk.length):(La pk cn now row).length=row.length:=by obtain⟨k,h1,m,o⟩:=Jv h;have:=aeV (now:=now) h;unfold GS at this;unfold La;rw[h1,gW_,IQ (by rw[wU ab];omega),wU ab];omega
def dm.eb(c:dm bs b t B T)(E:EB bs):EB (stepG bs b t B T):=by
 have I:=gO bs b t B T;have cs:∀Y∈stepG bs b t B T,∃(i:Nat) (X:GB),bs[i]?=some X/\Y=dG bs b t B T i X:=fun Y s=>by obtain⟨i,K⟩:=iI s;obtain⟨X,h1,J⟩:=fH K;exact⟨i,X,h1,J⟩
 have D:∀(i:Nat)(X:GB),bs[i]?=some X->∀p∈(if(i:Int)∈T.to then Bm (aX bs i) t b X else X).bD,p.row.length=(aX bs i).length:=fun i X o p m=>by
  split at m;rename_i G;unfold Bm at m;obtain⟨q,H,rfl⟩:=jo.1 m;show(La _ _ _ q.row).length=_;have:=E.rows i X o q H;rw[acS (c.O9.2 G) this,this]
  exact E.rows i X o p m
 refine⟨av E.n1,av E.n50,fun Y s=>?_,fun Y s a u=>?_,fun i Y s p m=>?_,fun Y s=>?_⟩;obtain⟨i,X,o,rfl⟩:=cs Y s;rw[dD,dL];by_cases d:i=t;rw[bM d,bM d];exact .inl ⟨rfl,rfl⟩;rw[bU d,bU d];by_cases C:i=b;rw[bM C,bM C];exact E.kind T (cN c.ht);rw[bU C,bU C];exact E.kind X (cN o);obtain⟨i,X,o,rfl⟩:=cs Y s;rw[I];rw[dD] at u;split at u;simp at u;split at u;exact E.to T (cN c.ht) a u;exact E.to X (cN o) a u;obtain⟨X,o,rfl⟩:=fH s;by_cases d:i=t;unfold dG at m;rw[bM d] at m;simp[rh] at m;rw[ky d] at m;rw[c.aeS d];exact D i X o p m
 .obtain⟨i,X,o,rfl⟩:=cs Y s;have h0:=E.pl X (cN o);by_cases d:i=t
  unfold dG;rw[bM d];simp[rh];rw[ky d];split;simpa [Bm] using h0;exact h0
def dm.others(c:dm bs b t B T){x:Nat}(C:x≠b)(no:∀u X U,¬dm bs x u X U):∀u X U,¬dm (stepG bs b t B T) x u X U:=fun u K J d=>by
 obtain⟨X,G,o⟩:=fH d.hb;obtain⟨U,I,H⟩:=fH d.ht;have m:x≠t:=fun e=>by have:=d.k2;rw[o,dL,bM e] at this;omega
 have D:=d.k2;have s:=d.to;rw[o,dL,bU m,bU C] at D;rw[o,dD,bU m,bU C] at s;have E:u≠t:=fun e=>C (c.ZP G (by rw[s,e];simp));refine no u X U ⟨G,I,D,s,d.ne,?_,?_⟩
 have:=d.ph;rw[H,ky E] at this;split at this;simpa [Bm] using this;exact this;rw[<-c.aeS E];exact d.one
def xT(bs:List GB):Nat:=(bs.map fun b=>b.to.length).sum
def xB:∀(l:List Nat)(i:Nat)(x y:Nat),l[i]?=some y->(l.set i x).sum+y=l.sum+x
 |[],i,x,y,h=>by simp at h
 |z::l,0,x,y,h=>by simp at h;subst h;simp;omega
 |z::l,i+1,x,y,h=>by simp at h;have:=xB l i x y h;simp;omega
def dm.less(c:dm bs b t B T):xT (stepG bs b t B T)<xT bs:=by
 have e:(stepG bs b t B T).map (fun b=>b.to.length)=((bs.map fun b=>b.to.length).set b T.to.length).set t 0:=by refine Cy fun i=>?_;rw[js,fL,fL,List.length_set,KM,js];by_cases m:i<bs.length;obtain⟨X,s⟩:=aV bs i m;rw[gz s,s,Cx,dD];by_cases d:i=t;subst d;simp[m];by_cases o:i=b;subst o;simp[d,Ne.symm d,m];simp[d,o,Ne.symm d,Ne.symm o];rw[wY (by rw[gO];omega),wY ab];have:=(di.mp c.hb).1;have:=(di.mp c.ht).1;rw[bU ab,bU ab]
 unfold xT;rw[e];have h1:=xB (bs.map fun b=>b.to.length) b T.to.length 1 (by rw[js,c.hb,Cx,c.to];rfl);have u:=xB ((bs.map fun b=>b.to.length).set b T.to.length) t 0 T.to.length (by rw[fL,bU (Ne.symm c.ne),js,c.ht];rfl);omega
inductive Steps:List GB->List GB->Prop
 |refl (bs:List GB):Steps bs bs
 |step {bs bs1:List GB} {b t:Nat} {B T:GB} (s:Steps bs bs1) (c:dm bs1 b t B T):Steps bs (stepG bs1 b t B T)
def Steps.trans{a b c:List GB}(h:Steps a b)(k:Steps b c):Steps a c:=by
 induction k with
 |refl=>exact h
 |step _ c d=>exact .step d c
end
def ua:YB:=⟨cK,cK,cK,1,(false,0),[],[],[]⟩
def nk(rb rt:YB)(L':SV):YB:= {rb with L:=L',ls:=rb.ls++rt.ls}
section
variable{h h':az}{n0 b t:Nat}{B L':SV}{ys:List YB}{rb rt:YB}{S:Nat->Prop}
def QY(s:ys[b]?=some rb)(E:ys[t]?=some rt)(o:Option (Nat×Lo))(c:Nat)(m:eV B (ys.set b (nk rb rt L')) o=some c):(o=some (b,.L)/\eR L'=some c)\/∃C,eV B ys C=some c/\C≠some (b,.L)/\(C=o\/∃j,o=some (b,.X (rb.ls.length+j))/\C=some (t,.X j)):=by
 have G:=(di.mp s).1
 match o with
 |none=>exact .inr ⟨none,m,nofun,.inl rfl⟩
 |some (k,l)=>
  by_cases e:k=b
  .subst e;have d:(nk rb rt L').loc l=some c:=by simpa [eV,G] using m
   match l with
   |.L=>exact .inl ⟨rfl,d⟩
   |.P=>exact .inr ⟨some (_,.P),(by rw[cz s];exact d),nofun,.inl rfl⟩
   |.T=>exact .inr ⟨some (_,.T),(by rw[cz s];exact d),nofun,.inl rfl⟩
   |.R j=>exact .inr ⟨some (_,.R j),(by rw[cz s];exact d),nofun,.inl rfl⟩
   |.X j=>
    simp only[YB.loc,nk] at d;rcases Gf j rb.ls.length with u|u
    .rw[Iw u] at d;exact .inr ⟨some (_,.X j),(by rw[cz s];exact d),nofun,.inl rfl⟩
    .rw[Ke u] at d;exact .inr ⟨some (t,.X (j-rb.ls.length)),(by rw[cz E];exact d),nofun,.inr ⟨j-rb.ls.length,(by rw[Nat.add_sub_cancel' u]),rfl⟩⟩
  refine .inr ⟨some (k,l),?_,fun D=>e (by cases D;rfl),.inl rfl⟩;simp only[eV] at m⊢;rw[fL,bU (Ne.symm e)] at m;exact m
def FZ.join(w:FZ h n0 B ys)(u:cr h)(m:ys[b]?=some rb)(K:ys[t]?=some rt)(g:ay S h h')(hS:∀c,S c->∀o,eV B ys o=some c->o=none\/o=some (b,.L))(hB:eo dZ h' B (ys.set b (nk rb rt L')))(hL:eo gu h' L' (rb.ls++rt.ls))(Y:∀c,eR L'=some c->eR rb.L=some c\/h.aw<=c)(hn:n0<=h.aw):FZ h' n0 B (ys.set b (nk rb rt L'))/\∀c,cx B (ys.set b (nk rb rt L')) c->cx B ys c\/h.aw<=c:=by
 have qW:=(di.mp m).1;have key:=QY (B:=B) (L':=L') m K;have no:∀ {k:Nat} {y:YB},ys[k]?=some y->∀c l,S c->(k≠b\/l≠ .L)->y.loc l≠some c:=fun {k y} hy c l d oK e=>by rcases hS c d (some (k,l)) (by rw[cz hy];exact e) with h|h<;>cases h;rcases oK with h|h<;>exact h rfl
 have J:=w.at m;refine⟨⟨hB,fun z hz=>?_,fun a M c ha ia=>?_,fun o c e=>?_⟩,fun c ⟨o,e⟩=>?_⟩
 .obtain⟨k,D⟩:=iI hz;rw[fL] at D;by_cases e:b=k
  .subst e;rw[bM rfl,bM qW] at D;cases D;refine⟨J.P.go u g fun c d=>no m c .P d (.inr nofun),hL,J.T.go u g fun c d=>no m c .T d (.inr nofun),fun q s=>?_,fun q s=>?_⟩
   .obtain⟨j,E⟩:=iI s;exact(J.ps q s).go u g fun c d=>by rw[<-YB.jN (y:=rb) E];exact no m c _ d (.inr nofun)
   .rcases jS.1 s with s|s
    .obtain⟨j,E⟩:=iI s;exact(J.ls q s).go u g fun c d=>by rw[<-YB.mm E];exact no m c _ d (.inr nofun)
    .obtain⟨j,E⟩:=iI s;exact((w.at K).ls q s).go u g fun c d=>by rw[<-YB.mm E];exact no K c _ d (.inr nofun)
  rw[bU e] at D;exact(w.at D).go u g fun c l d=>no D c l d (.inl (Ne.symm e))
 .have one:∀o c,eR L'=some c->eV B ys o=some c->o=some (b,.L):=fun o c h1 G=>by rcases Y c h1 with h|h;exact(w.tf (some (b,.L)) o c (by rw[cz m];exact h) G).symm;have:=w.lt u G;omega
  rcases key a c ha with⟨rfl,I⟩|⟨Q,I,n1,q1⟩;rcases key M c ia with⟨rfl,C⟩|⟨H,C,n2,Z⟩;exact .inl rfl;exact absurd (one H c I C) n2
  .rcases key M c ia with⟨rfl,C⟩|⟨H,C,n2,Z⟩;exact absurd (one Q c C I) n1
   .have x1:Xo Q->Xo a:=fun U=>by rcases q1 with rfl|⟨j,rfl,rfl⟩;exact U;trivial
    have x2:Xo H->Xo M:=fun U=>by rcases Z with rfl|⟨j,rfl,rfl⟩;exact U;trivial
    rcases w.inj Q H c I C with h|⟨_,h1,G⟩;rcases q1 with rfl|⟨j,rfl,rfl⟩;rcases Z with rfl|⟨j,rfl,rfl⟩;exact .inl h;exact .inr ⟨trivial,by rw[h];trivial,trivial⟩;exact .inr ⟨trivial,trivial,x2 (by rw[<-h];trivial)⟩;exact .inr ⟨trivial,x1 h1,x2 G⟩
 rcases key o c e with⟨rfl,p⟩|⟨V,p,_,_⟩;rcases Y c p with h|h;exact w.new (some (b,.L)) c (by rw[cz m];exact h);omega;exact w.new V c p;rcases key o c e with⟨rfl,p⟩|⟨V,p,_,_⟩;exact(Y c p).imp (fun h=>⟨some (b,.L),by rw[cz m];exact h⟩) id;exact .inl ⟨V,p⟩
def BO(rb rt:YB):YB:= {rb with kind:=rt.kind,on:=rt.on,T:=rt.T,to:=rt.to}
def Sn(m:ys[b]?=some rb)(E:ys[t]?=some rt)(I:t≠b)(o:Option (Nat×Lo))(c:Nat)(d:eV B ((ys.set b (BO rb rt)).set t ua) o=some c):(∀l,o≠some (t,l))/\∃D,eV B ys D=some c/\((D=o/\o≠some (b,.T))\/(o=some (b,.T)/\D=some (t,.T))):=by
 have H:=(di.mp m).1;have G:=(di.mp E).1
 match o with
 |none=>exact⟨nofun,none,d,.inl ⟨rfl,nofun⟩⟩
 |some (k,l)=>
  by_cases u:k=t
  .subst u;have:ua.loc l=some c:=by simpa [eV,G] using d
   cases l<;>simp[ua,YB.loc,eR,cK] at this
  .refine⟨fun l' e=>u (by cases e;rfl),?_⟩;simp only[eV] at d;rw[fL,bU (Ne.symm u),fL] at d;by_cases C:b=k
   .subst C;rw[bM rfl,bM H] at d;have s:(BO rb rt).loc l=some c:=d
    match l with
    |.T=>exact⟨some (t,.T),(by rw[cz E];exact s),.inr ⟨rfl,rfl⟩⟩
    |.P=>exact⟨some (_,.P),(by rw[cz m];exact s),.inl ⟨rfl,nofun⟩⟩
    |.L=>exact⟨some (_,.L),(by rw[cz m];exact s),.inl ⟨rfl,nofun⟩⟩
    |.R j=>exact⟨some (_,.R j),(by rw[cz m];exact s),.inl ⟨rfl,nofun⟩⟩
    |.X j=>exact⟨some (_,.X j),(by rw[cz m];exact s),.inl ⟨rfl,nofun⟩⟩
   rw[bU C] at d;exact⟨some (k,l),d,.inl ⟨rfl,fun e=>C (by cases e;rfl)⟩⟩
def FZ.take(w:FZ h n0 B ys)(ok:cr h)(m:ys[b]?=some rb)(u:ys[t]?=some rt)(M:t≠b)(g:ay S h h')(hS:∀c,S c->∀o,eV B ys o=some c->o=none)(hB:eo dZ h' B ((ys.set b (BO rb rt)).set t ua)):FZ h' n0 B ((ys.set b (BO rb rt)).set t ua)/\∀c,cx B ((ys.set b (BO rb rt)).set t ua) c->cx B ys c:=by
 have V:=(di.mp m).1;have CD:=(di.mp u).1;have key:=Sn (B:=B) m u M;have Z:∀ {k:Nat} {y:YB},ys[k]?=some y->BZ h' y:=fun {k y} hy=>(w.at hy).go ok g fun c l hc e=>by have:=hS c hc (some (k,l)) (by rw[cz hy];exact e);cases this
 refine⟨⟨hB,fun z hz=>?_,fun a K c ha ia=>?_,fun o c e=>?_⟩,fun c ⟨o,e⟩=>?_⟩;obtain⟨k,d⟩:=iI hz;rw[fL,List.length_set] at d;by_cases H:t=k;rw[bM H,bM CD] at d;cases d;exact⟨eo.nil _ _,eo.nil _ _,eo.nil _ _,fun q C=>by simp[ua] at C,fun q C=>by simp[ua] at C⟩;rw[bU H,fL] at d;by_cases G:b=k;rw[bM G,bM V] at d;cases d;exact⟨(Z m).P,(Z m).L,(Z u).T,(Z m).ps,(Z m).ls⟩;rw[bU G] at d;exact Z d;obtain⟨n1,Y,D,Q⟩:=key a c ha;obtain⟨n2,U,s,I⟩:=key K c ia;rcases Q with⟨rfl,m1⟩|⟨rfl,rfl⟩;rcases I with⟨rfl,J⟩|⟨rfl,rfl⟩;exact w.inj _ _ c D s;exact absurd (w.tf (some (t,.T)) Y c s D).symm (n1 _);rcases I with⟨rfl,J⟩|⟨rfl,rfl⟩;exact absurd (w.tf (some (t,.T)) U c D s).symm (n2 _);exact .inl rfl;obtain⟨_,E,p,_⟩:=key o c e;exact w.new E c p;obtain⟨_,E,p,_⟩:=key o c e;exact⟨E,p⟩
end
def mT{bs d:List GB}(u:d.length=bs.length)(h:∀(i:Nat)(x x':GB),bs[i]?=some x->d[i]?=some x'->x'.to=x.to)(b:Int):aX d b=aX bs b:=by unfold aX iZ;rw[u];congr 1;refine List.filter_congr fun i m=>?_;have m:=N4.1 m;have o:bs[i]?=some bs[i]:=g_ m;have s:d[i]?=some (d[i]'ab):=g_ ab;have:=h i _ _ o s;congr 1;rw[o,s];simp[this]
def EB.list{bs:List GB}(E:EB bs){b:Nat}{X:GB}(C:bs[b]?=some X)(l:List GI):EB (bs.set b {X with list:=l})/\∀i,aX (bs.set b {X with list:=l}) i=aX bs i:=by
 have I:=(di.mp C).1;have o:∀(i:Nat)(y:GB),(bs.set b {X with list:=l})[i]?=some y->∃x,bs[i]?=some x/\y= {x with list:=y.list} :=fun i y d=>by rw[fL] at d;by_cases e:b=i;subst e;rw[bM rfl,bM I] at d;cases d;exact⟨X,C,rfl⟩;rw[bU e] at d;exact⟨y,d,rfl⟩
 have A:∀i,aX (bs.set b {X with list:=l}) i=aX bs i:=mT ae fun i x G h1 m=>by obtain⟨y,u,D⟩:=o i G m;rw[h1] at u;cases u;rw[D]
 have mem:∀y∈bs.set b {X with list:=l},∃x∈bs,y= {x with list:=y.list} :=fun y d=>by obtain⟨i,H⟩:=iI d;obtain⟨x,h1,m⟩:=o i y H;exact⟨x,cN h1,m⟩
 refine⟨⟨aj E.n1,aj E.n50,fun y d=>?_,fun y d=>?_,fun i y d p s=>?_,fun y d=>?_⟩,A⟩;obtain⟨x,h1,m⟩:=mem y d;rw[m];exact E.kind x h1;obtain⟨x,h1,m⟩:=mem y d;rw[m,List.length_set];exact E.to x h1;obtain⟨x,h1,m⟩:=o i y d;rw[m] at s;rw[A];exact E.rows i x h1 p s;obtain⟨x,h1,m⟩:=mem y d;rw[m];exact E.pl x h1
def Qc(D:cr h){B:SV}(W:FZ h n0 B ys)(uU:n0<=h.aw){X b s sX:Nat}{to:Nat}(m:ys[b]?=some rb)(ht:ys[to]?=some rt)(J:B.a=some ⟨s,0,none⟩)(hX:fC h X (EA rt) sX)(Ki:rb.ls.length+rt.ls.length<2000000)(f4:bH e 4=.pointer (some ⟨s,b*6,none⟩))(f6:cm e 6 X)(C:∀e' h' L',aM ChD e e'->ay (cx B ys) h h'->FZ h' n0 B (ys.set b (nk rb rt L'))->(∀c,cx B (ys.set b (nk rb rt L')) c->cx B ys c\/h.aw<=c)->QQ .normal e' h'):aO FF Tq e h QQ:=by
 have Yb:=W.at m;have Yt:=W.at ht;have qW:=(di.mp m).1;obtain⟨PK,cs,oB,sB,M,Gg,hjB,dQ,cZ,fu⟩:=W.A.el m;rw[J] at M;cases M;have Ec:=cZ 1 1 ag;simp[-ax] at Ec;have eC:=hX;simp[EA] at eC;have oX:=D.cn hX;unfold Tq;simp[f4,f6,eC,Ec,-ax,aQ,aF eC,oX];have H:ay aZ h (tick h):=bC D;have Y:=H.ok;generalize tick h=h1 at Y H;obtain⟨L',Q,ea,K,V,Pl,_⟩:=BW (E:=gu) (bytes:=80) (z:=[.int .i64 0,.int .i64 0,.bool false,.int .i64 0,.bool false,.int .i64 0,.int .i64 0,.slice none 0 0]) Y rfl (Yb.L.ck D H) (Yt.L.sl.ck D H) Ki ag;have atr:∀c,eR L'=some c->bt L'.v c:=fun c d=>by rcases K.2 with⟨U,_⟩|⟨b2,_,_,_,U,_⟩;simp[eR,U] at d;rw[cy U] at d;cases d;exact eY U
 have Z:∀c,bt rb.L.v c->eR B≠some c:=fun c d e=>by have:=W.tf none (some (b,.L)) c e (by rw[cz m];exact dq d);cases this
 have A3:=(W.A.ck D H).go Y V fun c d=>Z c d;obtain⟨PK,I,u,sB3,M,KN,avl,QD,ajk,QN⟩:=A3.el m;rw[J] at M;cases M;have wa:=QD 1 1 ag;simp at wa;refine mn ea ?_;simp[f4,KN,wa];have gw:ay (· =s) Q (put Q s (b*6+1) I [.slice L'.a L'.l L'.c] u):=aY V.ok KN;have A4:=QN (nk rb rt L') 1 [.slice L'.a L'.l L'.c] ae rfl (put Q s (b*6+1) I [.slice L'.a L'.l L'.c] u) ⟨_,aP _ _ _ _ _ _⟩;have lgt:=H.aw;have lB:=W.A.lt D (cy J);have nL:∀c,eR L'=some c->eR rb.L=some c\/h.aw<=c:=fun c d=>by rcases Pl c (atr c d) with h|h;exact .inl (dq h);exact .inr ab
 have G:ay (fun c=>bt rb.L.v c\/c=s) h (put Q s (b*6+1) I [.slice L'.a L'.l L'.c] u):=(H.ck.trans' V ai (fun _ _ h=>.inl h)).trans' gw ai (fun _ _ h=>.inr h);have XS:=K.go V.ok gw fun c d e=>by rw[d] at e;rcases nL _ e with h|h;have:=W.tf none (some (b,.L)) s (cy J) (by rw[cz m];exact h);cases this;omega
 obtain⟨W4,s4⟩:=W.join D m ht G (fun c d o ho=>by rcases d with h|h;exact .inr (W.tf (some (b,.L)) o c (by rw[cz m];exact dq h) ho).symm;exact .inl (W.tf none o c (by rw[h];exact cy J) ho).symm) A4 XS nL uU;refine C _ _ L' ?_ (G.cY fun c _ d=>?_) W4 s4
 .repeat (refine aM.set ?_)
  exact aM.refl _ _
 rcases d with h|h;exact⟨some (b,.L),by rw[cz m];exact dq h⟩;exact⟨none,by rw[h];exact cy J⟩
def NA(Y:cr h){B L':SV}(uU:n0<=h.aw){X b K sX F sF:Nat}{to:Nat}(hb:ys[b]?=some rb)(ht:ys[to]?=some rt)(c:dm (ys.map YB.g) b to rb.g rt.g)(E:EB (ys.map YB.g))(W:FZ h n0 B (ys.set b (nk rb rt L')))(Z:B.a=some ⟨K,0,none⟩)(hX:fC h X (EA rt) sX)(nX:¬cx B (ys.set b (nk rb rt L')) X)(hF:fC h F (aC name p rg B) sF)(nF:¬cx B (ys.set b (nk rb rt L')) F)(f1:cm e 1 F)(f3:bJ e 3 b)(f4:bH e 4=.pointer (some ⟨K,b*6,none⟩))(f5:bJ e 5 to)(f6:cm e 6 X)(C:∀e' h' m,aM ChA e e'->ay (cx B (ys.set b (nk rb rt L'))) h h'->FZ h' n0 B m->(∀c,cx B m c->cx B (ys.set b (nk rb rt L')) c\/h.aw<=c)->(wI B ys->wI B m)->m.map YB.g=stepG (ys.map YB.g) b to rb.g rt.g->QQ .normal e' h'):aO FF Nz e h QQ:=by
 have qW:=(di.mp hb).1;have CD:=(di.mp ht).1;obtain⟨y1,BG⟩:∃y1,y1=nk rb rt L':=⟨_,rfl⟩;obtain⟨D,d⟩:∃D,D=ys.set b y1:=⟨_,rfl⟩;have kk:=QY (B:=B) (L':=L') hb ht;rw[<-BG,<-d] at W nX nF C kk;have ht1:D[to]?=some rt:=by rw[d,fL,bU (Ne.symm c.ne)];exact ht
 have Pk:D[b]?=some y1:=by rw[d,fL,bM rfl,bM qW]
 have V:D.map YB.g=(ys.map YB.g).set b {rb.g with list:=rb.g.list++rt.g.list} :=by rw[d,List.map_set,BG];congr 1;simp[nk,YB.g]
 have yg:∀ {k:Nat} {y:YB},ys[k]?=some y->(ys.map YB.g)[k]?=some y.g:=fun h=>by rw[js,h];rfl
 obtain⟨E1,A1⟩:=E.list (yg hb) (rb.g.list++rt.g.list);rw[<-V] at E1 A1;unfold Nz;simp[f1,f3,f5];have Rn:=OJ Y W uU hF nF (cn:=to) (now:=b) ht1 E1;refine bm.call (by simpa [f1] using Rn) ?_;rintro _ u⟨m,I,Mz,HT⟩;have W2:=I.w;have eC:=I.g.get Y hX nX;have jz:=I.g.get Y hF nF;have lX:=Y.wf _ _ hX;have lF:=Y.wf _ _ hF;have wK:m.length=ys.length:=by have:=congrArg List.length Mz;simp[JE,d] at this;exact this
 obtain⟨G,s⟩:=aV m b;obtain⟨U,H⟩:=aV m to;have ezb:=HT b y1 G Pk s;have ezt:=HT to rt U ht1 H;obtain⟨PK,cs,oB,sB,wZ,Gg,hjB,dQ,cZ,fu⟩:=W2.A.el s;rw[Z] at wZ;cases wZ;have Pr:=dQ 2 4 ag;simp at Pr;have eD:=eC;simp[EA] at eD;have uT:=jz;have dT:=W2.A.len;simp[aC] at uT;rw[Z,dT,wK] at uT;have oB:cx B D K:=⟨none,cy Z⟩;have nFB:¬F=K:=fun e=>nF (e▸oB);have A3:=fu (BO G U) 2 [.int .i64 rt.kind,.bool rt.on.1,.int .i64 rt.on.2,.slice rt.T.a rt.T.l rt.T.c] ae (by rw[ezt];rfl) (put u K (b*6+2) cs [.int .i64 rt.kind,.bool rt.on.1,.int .i64 rt.on.2,.slice rt.T.a rt.T.l rt.T.c] _) ⟨_,aP _ _ _ _ _ _⟩;have ht3:(m.set b (BO G U))[to]?=some U:=by rw[fL,bU (Ne.symm c.ne)];exact H
 obtain⟨PK,cs3,oB3,sB3,wZ,KN,avl,QD,ajk,QN⟩:=A3.el ht3;rw[Z] at wZ;cases wZ;have hf3:=QD 0 6 ag;simp at hf3;have gw:=aY (off:=b*6+2) (vs:=[.int .i64 rt.kind,.bool rt.on.1,.int .i64 rt.on.2,.slice rt.T.a rt.T.l rt.T.c]) I.g.ok Gg;have BH:=gw.get I.g.ok uT nFB;simp[f4,f6,eD,Gg,Pr];generalize put u K (b*6+2) cs _ _=h3 at*;simp[f1,f5,BH,KN,hf3,CD];have gw2:=aY (off:=to*6) (vs:=[.slice none 0 0,.slice none 0 0,.int .i64 1,.bool false,.int .i64 0,.slice none 0 0]) gw.ok KN;have A5:=QN ua 0 [.slice none 0 0,.slice none 0 0,.int .i64 1,.bool false,.int .i64 0,.slice none 0 0] ae rfl (put h3 K (to*6) cs3 [.slice none 0 0,.slice none 0 0,.int .i64 1,.bool false,.int .i64 0,.slice none 0 0] oB3) ⟨h3.clock,ae⟩;obtain⟨W5,s5⟩:=W2.take I.g.ok s H c.ne (gw.trans gw2) (fun x J o ho=>(W2.tf none o x (by rw[J];exact cy Z) ho).symm) A5;have tk:=Sn (B:=B) s H c.ne;refine C _ _ ((m.set b (BO G U)).set to ua) ?_ (I.g.trans' (gw.trans gw2) ai fun x _ J=>by rw[J];exact oB) W5 (fun x J=>I.s x (s5 x J)) (fun J a a' x ha G8=>?_) ?_
 .repeat (refine aM.set ?_)
  exact aM.refl _ _
 .rcases W5.inj a a' x ha G8 with h|⟨_,x1,x2⟩;exact .inl h;have back:∀o,Xo o->eV B ((m.set b (BO G U)).set to ua) o=some x->(∀l,o≠some (to,l))/\∃o',eV B ys o'=some x/\(o'=o\/∃j,o=some (b,.X (rb.ls.length+j))/\o'=some (to,.X j)):=fun o xo ho=>by
   obtain⟨n1,o1,p1,q1⟩:=tk o x ho;refine⟨n1,?_⟩;rcases q1 with⟨rfl,_⟩|⟨rfl,_⟩
   .have p2:eV B D o1=some x:=by
     match o1,xo with
     |some (k,.X j),_=>
      obtain⟨z,h1,u⟩:=Ev.1 p1;obtain⟨y,Q⟩:=aV D k (by have:=(di.mp h1).1;rw[d];simp;omega);rw[cz Q];rw[HT k y z Q h1] at u;exact u
    rcases kk o1 x p2 with⟨rfl,_⟩|⟨o',h1,_,u⟩;exact xo.elim;exact⟨o',h1,u⟩
   exact xo.elim
  obtain⟨n1,o1,p1,q1⟩:=back a x1 ha;obtain⟨n2,o2,p2,q2⟩:=back a' x2 G8;have e:=(J o1 o2 x p1 p2).elim id fun h=>h.1.elim;rcases q1 with rfl|⟨j,rfl,rfl⟩
  rcases q2 with rfl|⟨j,rfl,rfl⟩;exact .inl e;exact absurd e (n1 _);rcases q2 with rfl|⟨j',rfl,rfl⟩;exact absurd e.symm (n2 _);cases e;exact .inl rfl
 .refine Cy fun i=>?_;rw[List.map_set,List.map_set,fL,fL];simp only[List.length_set,KM,wK];by_cases hi:i<ys.length
  .obtain⟨y,Q⟩:=aV ys i hi;rw[gz (yg Q)];unfold dG;by_cases e1:to=i;subst e1;rw[bM rfl,bM hi,bM rfl];rfl
   .rw[bU e1,bU (Ne.symm e1)];by_cases e2:b=i
    .subst e2;rw[hb] at Q;cases Q;rw[bM rfl,bM hi,bM rfl];have h1:(m.map YB.g)[b]?=some G.g:=by rw[js,s];rfl
     have u:(D.map YB.g)[b]?=some {rb.g with list:=rb.g.list++rt.g.list} :=by rw[V,fL,bM rfl,bM (aj qW)]
     rw[Mz,Ef u,A1] at h1;have h3:=Option.some.inj h1;have e3:(BO G U).g=⟨G.g.bD,G.g.list,rt.g.kind,rt.g.on,rt.g.to⟩:=by rw[ezt];rfl
     rw[e3,<-h3];by_cases hm:(b:Int)∈rt.to;have M:(b:Int)∈rt.g.to:=hm;rw[bM hm,bM M];rfl;have M:¬(b:Int)∈rt.g.to:=hm;rw[bU hm,bU M]
    .rw[bU e2,bU (Ne.symm e2),Mz];have u:(D.map YB.g)[i]?=some y.g:=by rw[V,fL,bU e2,yg Q]
     rw[Ef u,A1];rfl
  rw[bU ab,bU ab,wY (by simp;omega),wY (by rw[gO];simp;omega)]
def gT(bs:List GB):Nat:=(bs.map fun b=>b.list.length).sum
def acF:∀(l:List Nat)(i x:Nat),l[i]?=some x->x<=l.sum
 |[],i,x,h=>by simp at h
 |z::l,0,x,h=>by simp at h;subst h;simp
 |z::l,i+1,x,h=>by simp at h;have:=acF l i x h;simp;omega
def xp{b:GB}(h:bs[i]?=some b):b.list.length<=gT bs:=acF _ i _ (by rw[js,h];rfl)
def dm.lists{b t:Nat}{B T:GB}(c:dm bs b t B T):gT (stepG bs b t B T)=gT bs:=by
 have e:(stepG bs b t B T).map (fun b=>b.list.length)=((bs.map fun b=>b.list.length).set b (B.list.length+T.list.length)).set t 0:=by refine Cy fun i=>?_;rw[js,fL,fL,List.length_set,KM,js];by_cases m:i<bs.length;obtain⟨X,s⟩:=aV bs i m;rw[gz s,s,Cx];unfold dG;by_cases d:i=t;subst d;simp[m,rh];by_cases o:i=b;subst o;simp[d,Ne.symm d,m];simp[d,o,Ne.symm d,Ne.symm o];split<;>rfl;rw[wY (by rw[gO];omega),wY ab];have:=(di.mp c.hb).1;have:=(di.mp c.ht).1;rw[bU ab,bU ab]
 unfold gT;rw[e];have h1:=xB (bs.map fun b=>b.list.length) b (B.list.length+T.list.length) B.list.length (by rw[js,c.hb];rfl);have u:=xB ((bs.map fun b=>b.list.length).set b (B.list.length+T.list.length)) t 0 T.list.length (by rw[fL,bU (Ne.symm c.ne),js,c.ht];rfl);omega
def uV(bs:List GB)(x:Nat):Prop:=∀u X U,¬dm bs x u X U
structure ChZ(h0 h':az)(n0:Nat)(B:SV)(gZ ys:List YB):Prop where
 T:cM h0 h' n0 B gZ B ys
 E:EB (ys.map YB.g)
 S:Steps (gZ.map YB.g) (ys.map YB.g)
 l:gT (ys.map YB.g)=gT (gZ.map YB.g)
 len:ys.length=gZ.length
def arW(h0:az)(n0:Nat)(B:SV)(gZ:List YB)(b F R d:Nat)(m:Nat)(e:Env)(h':az):Prop:=
 ∃ys:List YB,m=xT (ys.map YB.g)/\cm e 1 F/\cm e 2 R/\bJ e 3 b/\bH e 4=.pointer (some ⟨d,b*6,none⟩)/\ChZ h0 h' n0 B gZ ys/\∀x,x≠b->uV (gZ.map YB.g) x->uV (ys.map YB.g) x
def Qd(dt:cr h0){B:SV}(uU:n0<=h0.aw)(W0:FZ h0 n0 B gZ)(E0:EB (gZ.map YB.g))(hL:gT (gZ.map YB.g)<1000000){F R b bB sF:Nat}(fp:B.a=some ⟨bB,0,none⟩)(hF:fC h0 F (aC name p rg B) sF)(nF:¬cx B gZ F)(hb:b<gZ.length)(f1:cm e 1 F)(f2:cm e 2 R)(f3:bJ e 3 b)(f4:bH e 4=.pointer (some ⟨bB,b*6,none⟩))(C:∀e' h' ys,cm e' 1 F->cm e' 2 R->bJ e' 3 b->ChZ h0 h' n0 B gZ ys->(∀x,x=b\/uV (gZ.map YB.g) x->uV (ys.map YB.g) x)->QQ (.exit 2) e' h'):aO FF (.loop oq) e h0 QQ:=by
 refine aO.loop (arW h0 n0 B gZ b F R bB) ?_ (n:=xT (gZ.map YB.g)) ⟨gZ,rfl,f1,f2,f3,f4,⟨.refl W0 dt,E0,.refl _,rfl,rfl⟩,fun _ _ h=>h⟩;rintro m e' h'⟨ys,rfl,q1,q2,q3,q4,P,No⟩;have T:=P.T;have g:=T.g;have bS:=g.ok;have hn:=P.len;have E:=P.E;have qW:(ys.map YB.g).length=ys.length:=KM ..;have LY:=E.n50;rw[qW] at LY;have K:∀ {k:Nat} {y:YB},ys[k]?=some y->(ys.map YB.g)[k]?=some y.g:=fun h=>by rw[js,h];rfl
 obtain⟨rb,G⟩:=aV ys b;have hmb:=cN (K G);have Rb:=T.w.at G;obtain⟨PK,cs,oB,sB,wZ,Gg,hjB,dQ,cZ,fu⟩:=T.w.A.el G;rw[fp] at wZ;cases wZ;have Z:=cZ 2 1 ag;have Y:=cZ 5 1 ag;simp[-ax] at Z Y;have nz:=g.get dt hF nF;have jz:=nz;have dT:=T.w.A.len;simp[aC] at jz;rw[fp,dT] at jz;have lF:=dt.wf _ _ hF;have oF:=bS.cn nz;have ln:=g.aw;have mN:∀c,h'.aw<=c->¬cx B ys c:=fun c hc h=>av (T.w.mo bS h)
 have nF1:¬cx B ys F:=fun h=>(T.s F h).elim nF ab;have CC:∀D H,cm D 1 F->cm D 2 R->bJ D 3 b->ay aZ h' H->uV (ys.map YB.g) b->QQ (.exit 2) D H:=fun D H a1 a2 a3 o nb=>C D H ys a1 a2 a3 ⟨T.ck o,E,P.S,P.l,hn⟩ fun x hx=>by by_cases e:x=b;rw[e];exact nb;exact No x e (hx.resolve_left e)
 unfold oq;by_cases hk:rb.kind=2
 .obtain⟨t,Al⟩:∃t,rb.to=[t]:=by rcases E.kind rb.g hmb with⟨h,_⟩|⟨_,h⟩|⟨h,_⟩;have h':rb.kind=1:=h;omega;exact h;have h':rb.kind=3:=h;omega
  have htb:=E.to rb.g hmb t (by show t∈rb.to;rw[Al];simp);rw[qW] at htb;obtain⟨to,rfl⟩:∃u:Nat,t=u:=⟨t.toNat,ab⟩;have I:to<ys.length:=ab
  obtain⟨rt,Un⟩:=aV ys to I;have Rt:=T.w.at Un;have M:=Rb.T;rw[Al] at M;obtain⟨bT,csT,oT,sT,Bh,hTb',hjT,_,Of,_⟩:=M.el (i:=0) (x:=(to:Int)) rfl;have rt0:=Of 0 1 ag;simp[-ax] at rt0;have u5:=M.len;simp at u5;obtain⟨_,_,_,_,abB,TQ,_,_,Ha,_⟩:=T.w.A.el Un;rw[fp] at abB;cases abB;have rd6:=Ha 0 6 ag;simp[-ax] at rd6;have Q:(rb.kind==2)=true:=by simp[hk]
  rw[Bh,u5] at Y;have only:∀ {u:Nat} {X U:GB},dm (ys.map YB.g) b u X U->u=to/\U=rt.g:=fun {u X U} d=>by
   have h1:=d.hb;rw[K G] at h1;cases h1;have J:rb.to=[(u:Int)]:=d.to;rw[Al] at J;have H:to=u:=by simp at J;omega
   subst H;have h4:=d.ht;rw[K Un] at h4;cases h4;exact⟨rfl,rfl⟩
  simp[q1,q3,q4,Z,Q,Y,rt0,jz,aF jz,I,rd6,-ax];refine bm.cut (fun J=>ay aZ h' J/\dg J h'.aw (EA rt)) ?_ ?_;exact⟨(ay.refl bS).var _ _,h'.clock,by simp[bg,EA]⟩;rintro J⟨s,sX,hX⟩;have uT:=s.get bS jz;have DM:=s.get bS nz;have eC:=hX;simp[EA] at eC;have gY:=Rt.P.len;have T2:=T.ck s;by_cases e1:to=b
  .have e2:((to:Int)==(b:Int))=true:=by simp[e1]
   simp[e2];exact CC _ _ (au q1) (au q2) (au q3) s fun u X U d=>d.ne ((only d).1.trans e1)
  have e2:((to:Int)==(b:Int))=false:=by simp;omega
  by_cases D:0<rt.ps.length;simp[e2,eC,gY,D];exact CC _ _ (au q1) (au q2) (au q3) s fun u X U d=>by have h1:=d.ph;rw[(only d).2] at h1;simp[YB.g] at h1;rw[h1] at D;simp at D
  have ju:rt.ps=[]:=Wg ab;simp[e2,eC,gY,ju,q1,uT];refine bm.call (V:=fun v h'=>ay aZ J h'/\∃d ws,v=.slice (some ⟨d,0,none⟩) ys.length ys.length/\mz encI J.aw h' d ws (Edge.dO (cw (ys.map YB.g)))) (by simpa [aC,fp,dT] using qG s.ok (name:=name) (p:=p) (r:=rg) T2.w.view E.ends) ?_;rintro _ H⟨o,d,ws,rfl,w3⟩;have SR:=E.ahead (k:=to) ab;obtain⟨wk,QO⟩:=aV ws to (by rw[w3.len];exact(di.mp SR).1);obtain⟨sd,hd⟩:=w3.bZ;have rw6:=CK hd QO;simp[-ax] at rw6;have hWs:bj encI H wk.v (aX (ys.map YB.g) to):=(w3.acc to wk _ QO SR).sl;have Pu:wk.l=(aX (ys.map YB.g) to).length:=by obtain⟨a,cap,e,_⟩:=id hWs;simp at e;exact e.2.1
  have eD:=o.get s.ok hX;have BH:=o.get s.ok DM;by_cases e4:1<(aX (ys.map YB.g) to).length
  .have e5:(1:Int)<((aX (ys.map YB.g) to).length:Int):=ab
   simp[rw6,I,Pu,e5,-ax];exact CC _ _ (au q1) (au q2) (au q3) (s.trans o) fun u X U d=>by have h1:=d.one;rw[(only d).1] at h1;omega
  have c:dm (ys.map YB.g) b to rb.g rt.g:=⟨K G,K Un,hk,Al,e1,by show rt.ps.map (·.1)=[];rw[ju];rfl,ab⟩;have e5:¬(1:Int)<((aX (ys.map YB.g) to).length:Int):=ab
  simp[rw6,I,Pu,e5,-ax];have T3:=T2.ck o;have s1:=xp (K G);have s2:=xp (K Un);have hl:=P.l;simp[YB.g] at s1 s2;refine Qc o.ok T3.w (av T3.g.aw) G Un fp eD (by simp only[YB.g] at*;omega) (au q4) ae ?_;intro e5 h5 L5 K5 g5 W5 s5;have lX:h'.aw<H.aw:=o.ok.wf _ _ eD;have l3:=o.aw;have l2:=s.aw;have oJ:=g5.get o.ok eD (mN _ ab);have TV:=g5.get o.ok BH nF1;have m1:=K5.at (t:=1) (ak q1);have m2:=K5.at (t:=2) (ak q2);have m3:=K5.at (t:=3) (ak q3);have m4:=K5.at (t:=4) (ak q4);have m5:bH e5 5=.int .i64 to:=K5.at ae;have m6:cm e5 6 h'.aw:=K5.at ae;simp;refine NA g5.ok (by have:=T3.g.aw;have:=g5.aw;omega) G Un c E W5 fp oJ (fun h=>(s5 _ h).elim (mN _ ab) ab) TV (fun h=>(s5 _ h).elim nF1 ab) m1 m3 m4 m5 m6 ?_;intro e6 h6 zs K6 g6 W6 s6 x6 M6;have T6:cM h0 h6 n0 B gZ B zs:=T3.step (g5.trans' g6 ai fun c hc h=>(s5 c h).elim id fun h=>ab) (fun c h=>.inl h) ⟨W6,fun c h=>by have:=g5.aw;rcases s6 c h with h|h;exact s5 c h;exact .inr ab,x6⟩
  simp;refine⟨xT (zs.map YB.g),by rw[M6];exact c.less,zs,rfl,K6.at m1,K6.at m2,K6.at m3,K6.at m4,⟨T6,by rw[M6];exact c.eb E,by rw[M6];exact .step P.S c,by rw[M6,c.lists,hl],?_⟩,fun x hx h=>by rw[M6];exact c.others hx (No x hx h)⟩;have:=congrArg List.length M6;simp[gO] at this;omega
 .have Q:(rb.kind==2)=false:=by simp[hk]
  simp[q4,Z,Q,-ax];exact CC _ _ (au q1) (au q2) (au q3) (.refl bS) fun u X U d=>by have h1:=d.hb;rw[K G] at h1;cases h1;exact hk d.k2
def aaC(name:ByteArray)(p rg:Int)(n0:Nat)(B:SV)(gZ:List YB)(h:az)(v:Value)(h':az):Prop:=
 v=.agg ⟨aC name p rg B⟩/\∃ys,ChZ h h' n0 B gZ ys/\∀x,uV (ys.map YB.g) x
def arX(h0:az)(n0:Nat)(B:SV)(gZ:List YB)(F R:Nat)(m:Nat)(e:Env)(h':az):Prop:=
 ∃(b:Nat) (ys:List YB),m=gZ.length-b/\b<=gZ.length/\cm e 1 F/\cm e 2 R/\bJ e 3 b/\ChZ h0 h' n0 B gZ ys/\∀x,x<b->uV (ys.map YB.g) x
def NB(I:cr h){name:ByteArray}{p rg:Int}{B:SV}(uU:n0<=h.aw)(s:FZ h n0 B gZ)(Y:EB (gZ.map YB.g))(hL:gT (gZ.map YB.g)<1000000):bc FF 136 [.agg ⟨aC name p rg B⟩] h (aaC name p rg n0 B gZ h):=by
 have LY:=Y.n50;have E:=Y.n1;rw[KM] at LY E;have dT:=s.A.len;obtain⟨r0,IE⟩:=aV gZ 0 E;obtain⟨bB,_,_,_,J,hBb0,_⟩:=s.A.el IE;have V:∀c,h.aw<=c->¬cx B gZ c:=fun c hc h=>av (s.mo I h)
 refine bc.of GY ?_;unfold yB;have n2:¬h.aw=h.aw+1:=ab
 simp[aC];refine aO.cut (fun h1=>ay aZ h h1/\(dg h1 h.aw (aC name p rg B))/\(dg h1 (h.aw+1) [.string ⟨⟨[]⟩⟩,.int .i64 0,.int .i64 0,.slice none 0 0])) ?_ ?_;exact⟨((ay.refl I).new _ _).new _ _,⟨0,by simp[aC,n2]⟩,⟨0,ae⟩⟩;rintro h1⟨o,⟨sF,yD⟩,⟨sR,Bg⟩⟩;have ln1:=o.aw;have lF:=o.ok.wf _ _ yD;have lR:=o.ok.wf _ _ Bg;refine aO.loop (arX h1 n0 B gZ h.aw (h.aw+1)) ?_ (n:=gZ.length) ⟨0,gZ,rfl,ab,ae,ae,ae,⟨.refl (s.ck I o) o.ok,Y,.refl _,rfl,rfl⟩,fun x hx=>ab⟩;rintro m e' h'⟨b,ys,rfl,hb,M,q2,Q,P,No⟩;have T:=P.T;have g:=T.g;have bS:=g.ok;have nz:=g.get o.ok yD (V _ ab);have D:=g.get o.ok Bg (V _ ab);have H:=nz;have Cz:=T.w.A.len;have Z:=P.len;have ln:=g.aw;simp[aC] at H;rw[J,Cz,Z] at H;have G:∀c,h.aw<=c->c<h1.aw->¬cx B ys c:=fun c h2 h3 h4=>(T.s c h4).elim (V c h2) ab;unfold vJ;by_cases qW:b<gZ.length
 have wb:=cg ((b:Int)+1) ab ab;simp[M,Q,H,qW];refine Qd bS ab T.w P.E (by rw[P.l];exact hL) (F:=h.aw) (R:=h.aw+1) (b:=b) J nz (G _ ab lF) ab (au M) (au q2) (au Q) ae ?_;intro e3 h3 K k1 k2 k3 C N3;simp[k3,wb];exact⟨gZ.length-(b+1),ab,b+1,K,rfl,qW,au k1,au k2,ae,⟨T.trans C.T,C.E,P.S.trans C.S,C.l.trans P.l,C.len.trans Z⟩,fun x hx=>N3 x (by rcases Gf x b with h|h;exact .inr (No x h);exact .inl ab)⟩
 .have:b=gZ.length:=ab
  subst this;have nR:¬h.aw+1=h.aw:=ab
  simp[M,q2,Q,H,D,nR];have gw:=(ay.refl bS).put (S:=fun x=>x=h.aw+1) (off:=0) (vs:=[Value.string name,Value.int IntKind.i64 p,Value.int IntKind.i64 rg,Value.slice (some ⟨bB,0,none⟩) gZ.length B.c]) ⟨_,D⟩ (.inr rfl);generalize put h' _ _ _ _ _=h6 at gw⊢;refine⟨by simp[aC,J,dT],ys,⟨(((cM.refl s I).ck o).trans T).go gw (fun c hc=>⟨ab,by rw[hc];exact G _ ab lR⟩),P.E,P.S,P.l,Z⟩,fun x=>?_⟩;rcases Gf x gZ.length with h|h
  exact No x h;intro u X U d;have:=(di.mp d.hb).1;simp at this;omega
def dh(l es:List Int):List Int:=es.foldl dN l
def eF(l a b:List Int):dh l (a++b)=dh (dh l a) b:=by unfold dh;rw[List.foldl_append]
def Mx(l:List Int)(r:Int):l <+: dN l r:=by unfold dN;split;exact List.prefix_refl _;exact List.prefix_append _ _
def n9:∀(es l:List Int),l <+: dh l es
 |[],l=>List.prefix_refl _
 |r::es,l=>(Mx l r).trans (n9 es (dN l r))
def Fp(l:List Int)(r:Int):r∈dN l r:=by unfold dN;split<;>simp[*]
def uj:∀(es l:List Int){r:Int},r∈es->r∈dh l es
 |[],l,_,h=>by simp at h
 |x::es,l,r,h=>by rcases List.mem_cons.1 h with rfl|h;exact(n9 es (dN l r)).subset (Fp l r);exact uj es (dN l x) h
def I6{r:Int}(h:l.Nodup):(dN l r).Nodup:=by unfold dN;split;exact h;rename_i o;rw[List.nodup_append];exact⟨h,ae,fun a m b d e=>by simp at d;subst d;exact o (e▸m)⟩
def WD:∀(es:List Int){l:List Int},l.Nodup->(dh l es).Nodup
 |[],_,h=>h
 |r::es,_,h=>WD es (I6 (r:=r) h)
def yq{l L:List Int}(h:l <+: L)(d:x∈l):aR L x=aR l x:=by
 obtain⟨t,rfl⟩:=h;induction l with
 |nil=>simp at d
 |cons y l m=>
  simp only[List.cons_append];unfold aR;by_cases e:y=x;rw[bM e,bM e];rw[bU e,bU e,m ((List.mem_cons.1 d).resolve_left (Ne.symm e))]
def Ju{r:Int}(h:r∉l):aR (l++[r]) r=l.length:=by
 induction l with
 |nil=>simp[aR]
 |cons y l d=>
  simp only[List.mem_cons,not_or] at h;rw[List.cons_append];unfold aR;rw[bU (Ne.symm h.1),d h.2,bU ab,List.length_cons];omega
def U1{r x:Int}(h:x∉l)(d:x≠r):aR (l++[r]) x= -1:=tv (by simp[h,d])
structure NmX(h:az)(N nb aB:Nat)(l:List Int):Prop where
 hN:dg h N [.slice (some ⟨nb,0,none⟩) aB aB,.int .i64 l.length]
 hb:dg h nb (encI.flat ((List.range aB).map fun r:Nat=>aR l r))
 ne:N≠nb
 nd:l.Nodup
 lt:∀x∈l,0<=x/\x<aB
def NmX.go{S:Nat->Prop}(w:NmX h N nb aB l)(d:cr h)(g:ay S h h')(h1:¬S N)(m:¬S nb):NmX h' N nb aB l:=by obtain⟨s,a⟩:=w.hN;obtain⟨o,b⟩:=w.hb;exact⟨⟨s,g.get d a h1⟩,⟨o,g.get d b m⟩,w.ne,w.nd,w.lt⟩
def NmX.low(w:NmX h N nb aB l)(d:cr h):N<h.aw/\nb<h.aw:=by obtain⟨s,a⟩:=w.hN;obtain⟨m,b⟩:=w.hb;exact⟨d.wf _ _ a,d.wf _ _ b⟩
def Jf(nd:l.Nodup)(lt:∀x∈l,0<=x/\x<aB):l.length<=aB:=by
 have h1:(l.map Int.toNat).Nodup:=List.pairwise_map.2 (nd.imp_of_mem fun {a b} ha hb eQ e=>eQ (by have:=lt a ha;have:=lt b hb;omega));have:=gT_ h1 (l₂:=List.range aB) (fun x m=>by obtain⟨y,d,rfl⟩:=jo.1 m;have:=lt y d;exact N4.2 ab)
 simpa using this
def NnQ(N nb aB:Nat)(l:List Int)(r:Int)(h:az)(v:Value)(h':az):Prop:=ay (z7 N nb) h h'/\NmX h' N nb aB (dN l r)/\v=.int .i64 (aR (dN l r) r)
def xr(H:cr h)(w:NmX h N nb aB l){r:Int}(hr:0<=r/\r<aB)(DR:aB<1000000):bc FF 194 [.pointer (some ⟨N,0,none⟩),.int .i64 r] h (NnQ N nb aB l r h):=by
 obtain⟨⟨s,G⟩,⟨s',J⟩,K,nd,lt⟩:=id w;obtain⟨r,rfl⟩:∃u:Nat,r=u:=⟨r.toNat,ab⟩;have E:r<aB:=ab
 have C:((List.range aB).map fun r:Nat=>aR l r)[r]?=some (aR l r):=by simp[E]
 have Q:=lQ J C;refine bc.of Dy ?_;unfold vk;by_cases D:(r:Int)∈l
 .obtain⟨k,hk,_,_⟩:=Jv D;rw[hk] at Q;have d:dN l r=l:=by unfold dN;rw[bM D]
  have hk0:(0:Int)<=(k:Int):=ab
  have U:¬(k:Int)<0:=ab
  simp[G,E,Q,U,-ax,aF G];exact⟨.refl H,by rw[d];exact w,by rw[d,hk]⟩
 .have e0:=tv D;rw[e0] at Q;have d:dN l r=l++[(r:Int)]:=by unfold dN;rw[bU D]
  have hl:l.length<aB:=by have:=Jf (l:=l++[(r:Int)]) (aB:=aB) (by rw[<-d];exact I6 nd) (fun x C=>by rcases jS.1 C with h|h;exact lt x h;simp at h;subst h;exact hr);simp at this;omega
  have wm:=cg ((l.length:Int)+1) ab ab;have Ho:=H.st _ _ _ _ _ G;obtain⟨now,o⟩:∃now,now=(List.range aB).map fun r:Nat=>aR l r:=⟨_,rfl⟩;rw[<-o] at J;have KT:now.length=aB:=by rw[o];simp
  have Z:r<now.length:=ab
  have ne2:¬N=nb:=K;have ne3:¬nb=N:=Ne.symm K;have yE:r+1<=now.length:=ab
  have e2:(List.range aB).map (fun r:Nat=>aR (l++[(r:Int)]) r)=(List.range aB).map (fun r:Nat=>aR (l++[(r:Int)]) r):=rfl;have e3:now.set r (l.length:Int)=(List.range aB).map fun x:Nat=>aR (dN l r) x:=by rw[d,o];refine Cy fun m=>?_;rw[fL];by_cases e:r=m;subst e;rw[bM rfl,bM (aj E),js,List.getElem?_range E];simp[Ju D];rw[bU e,js,js];rcases Gf m aB with h|h;rw[List.getElem?_range h];simp only[Cx];congr 1;by_cases X9:(m:Int)∈l;exact(yq (List.prefix_append _ _) X9).symm;rw[tv X9,U1 X9 ab];rw[wY (aj h)];rfl
  simp[G,J,E,Z,yE,Q,-ax,aF G,aQ];have e4:=qU now r (l.length:Int) Z;have M:=aY (off:=r) (vs:=[Value.int .i64 (l.length:Int)]) (bC H).ok (b:=nb) (aj J);have Pk:(put (tick h) nb r (encI.flat now) [Value.int .i64 (l.length:Int)] 0).tr.get nb=some (.bZ (encI.flat (now.set r (l.length:Int))) false 0 (h.clock+1)):=by rw[aP,e4];rfl
  have I:=M.get (bC H).ok (b:=N) (aj G) K;have Y:=(bC H).ck.trans M;generalize put (tick h) nb r (encI.flat now) [Value.int .i64 (l.length:Int)] 0=h1 at*;simp[I,wm];have g2:=aY (off:=1) (vs:=[Value.int .i64 ((l.length:Int)+1)]) M.ok I;have V:(put h1 N 1 [Value.slice (some ⟨nb,0,none⟩) aB aB,Value.int .i64 l.length] [Value.int .i64 ((l.length:Int)+1)] 0).tr.get N=some (.bZ [.slice (some ⟨nb,0,none⟩) aB aB,.int .i64 ((l.length:Int)+1)] false 0 h1.clock):=by rw[aP];rfl
  have pz:=g2.get M.ok Pk ne3;generalize put h1 N 1 _ _ 0=h2 at*;have rx2:=lQ pz (k:=r) (x:=(l.length:Int)) (by rw[fL,bM rfl,bM Z]);simp[V,E,rx2,-ax,aF V];refine⟨(Y.cY (fun x _ e=>.inr e)).trans (g2.cY (fun x _ e=>.inl e)),⟨⟨h1.clock,?_⟩,(by rw[<-e3];exact⟨_,pz⟩),K,I6 nd,fun x C=>?_⟩,?_⟩
  rw[V,d];simp;rw[d] at C;rcases jS.1 C with h|h;exact lt x h;simp at h;subst h;exact hr;rw[d,Ju D]
def oz(v:Bool×Int):List Int:=if v.1 then [v.2] else []
def acL(l:List Int)(r:Int):dh l [r]=dN l r:=rfl
def NwQ(N nb aB:Nat)(l:List Int)(u:Bool×Int)(h:az)(v:Value)(h':az):Prop:=ay (z7 N nb) h h'/\NmX h' N nb aB (dh l (oz u))/\v=.agg ⟨[.bool (bq (dh l (oz u)) u).1,.int .i64 (bq (dh l (oz u)) u).2]⟩
def tj(G:cr h)(w:NmX h N nb aB l){u:Bool×Int}(hu:∀r∈oz u,0<=r/\r<aB)(Z:aB<1000000):bc FF 195 [.pointer (some ⟨N,0,none⟩),.agg ⟨[.bool u.1,.int .i64 u.2]⟩] h (NwQ N nb aB l u h):=by
 obtain⟨K,r⟩:=u;obtain⟨lN,lb⟩:=w.low G;refine bc.of EM ?_;unfold wQ;have Q:¬h.aw=h.aw+1:=ab
 have I:¬h.aw+1=h.aw:=ab
 simp;refine aO.cut (fun h1=>ay aZ h h1/\(dg h1 h.aw [.bool K,.int .i64 r])/\(dg h1 (h.aw+1) [.bool false,.int .i64 0])) ?_ ?_;exact⟨((ay.refl G).new _ _).new _ _,⟨0,au Q⟩,⟨0,ae⟩⟩;rintro h1⟨d,⟨sV,m⟩,⟨sR,D⟩⟩;have H:=w.go G d (fun h=>h) (fun h=>h);cases K with
 |false=>
  simp[m,D];exact⟨d.ck.put ⟨_,D⟩ (.inl ab),H.go d.ok (aY d.ok D) ab ab,rfl⟩
 |true=>
  simp[m];refine bm.call (V:=NnQ N nb aB l r h1) (aj (xr d.ok H (hu r (by simp[oz])) Z)) ?_;rintro _ E⟨o,w2,rfl⟩;have s:=o.get d.ok m (fun e=>by rcases e with e|e<;>omega);have M:=o.get d.ok D (fun e=>by rcases e with e|e<;>omega);have C:=aY (off:=1) (vs:=[Value.int .i64 (aR (dN l r) r)]) o.ok s;have hV3:(put E h.aw 1 [Value.bool true,Value.int .i64 r] [Value.int .i64 (aR (dN l r) r)] 0).tr.get h.aw=some (.bZ [.bool true,.int .i64 (aR (dN l r) r)] false 0 E.clock):=by rw[aP];rfl
  have U:=C.get o.ok M I;simp[s,M,Q,I];generalize put E h.aw 1 _ _ 0=h3 at*;have Y:=w2.go o.ok C ab ab;have J:=aY (off:=0) (vs:=[Value.bool true,Value.int .i64 (aR (dN l r) r)]) C.ok U;exact⟨((d.ck.trans o).trans' C ai (fun y hy e=>ab)).trans' J ai (fun y hy e=>ab),Y.go C.ok J ab ab,rfl⟩
def u0(row:List (Bool×Int)):List Int:=row.flatMap oz
def DH(x:GI):List Int:=oz x.a++(oz x.b++(u0 x.args++if 0<=x.dst then [x.dst] else []))
def Qr(b:GB):List Int:=b.bD.map (·.dst)++(b.list.flatMap DH++oz b.on)
structure NZ(h:az)(n0:Nat)(B:SV)(ys:List YB)(N nb aB:Nat)(l:List Int):Prop where
 W:FZ h n0 B ys
 w:NmX h N nb aB l
 nN:¬cx B ys N
 nb:¬cx B ys nb
 MN:aB<1000000
section
variable{n0:Nat}{B:SV}{ys:List YB}{N nb aB:Nat}{l l':List Int}
def NZ.step{h d:az}(k:NZ h n0 B ys N nb aB l)(m:cr h)(C:ay (z7 N nb) h d)(s:NmX d N nb aB l'):NZ d n0 B ys N nb aB l':=
 ⟨k.W.go m C (fun c o u e=>by rcases u with h|h;exact k.nN ⟨o,h▸e⟩;exact k.nb ⟨o,h▸e⟩),s,k.nN,k.nb,k.MN⟩
def NZ.ck{h m:az}(k:NZ h n0 B ys N nb aB l)(d:cr h)(o:ay aZ h m):NZ m n0 B ys N nb aB l:=
 ⟨k.W.ck d o,k.w.go d o (fun h=>h) (fun h=>h),k.nN,k.nb,k.MN⟩
def NZ.lt(k:NZ h n0 B ys N nb aB l)(d:cr h):N<h.aw/\nb<h.aw:=k.w.low d
def tC(aB:Nat)(es:List Int):Prop:=∀r∈es,0<=r/\r<aB
def tC.fst{a b:List Int}(h:tC aB (a++b)):tC aB a:=fun r d=>h r (List.mem_append_left _ d)
def tC.snd{a b:List Int}(h:tC aB (a++b)):tC aB b:=fun r d=>h r (List.mem_append_right _ d)
def tC.at{f:α->List Int}{xs:List α}(h:tC aB (xs.flatMap f)){x:α}(d:x∈xs):tC aB (f x):=fun r m=>h r (List.mem_flatMap.2 ⟨x,d,m⟩)
def jy{f:α->List Int}{xs:List α}{x:α}(h:xs[j]?=some x)(l:List Int):dh l ((xs.take (j+1)).flatMap f)=dh (dh l ((xs.take j).flatMap f)) (f x):=by rw[lg,h,List.flatMap_append,eF];simp
def NaZ(h:az)(n0:Nat)(B:SV)(ys:List YB)(N nb aB:Nat)(l:List Int)(row:List (Bool×Int))(e:Env)(m:Nat)(e':Env)(h':az):Prop:=
 ∃j:Nat,m=row.length-j/\j<=row.length/\aM NaL e e'/\bJ e' 79 j/\ay (z7 N nb) h h'/\NZ h' n0 B ys N nb aB (dh l (u0 (row.take j)))
def acY(ok:cr h)(k:NZ h n0 B ys N nb aB l){i j0:Nat}(hy:ys[i]?=some y){q:GI×SV}(hq:y.ls[j0]?=some q)(hl:q.1.args.length<=1048576)(hr:tC aB (u0 q.1.args))(f3:cm e 3 N)(J:bH e 77=q.2.v)(I:bJ e 78 q.1.args.length)(H:bJ e 79 0)(C:∀M h',aM NaL e M->ay (z7 N nb) h h'->NZ h' n0 B ys N nb aB (dh l (u0 q.1.args))->QQ (.exit 8) M h'):aO FF (.loop qa) e h QQ:=by
 refine aO.loop (NaZ h n0 B ys N nb aB l q.1.args e) ?_ (n:=q.1.args.length) ⟨0,rfl,ab,aM.refl _ _,H,.refl ok,k⟩;rintro m M h'⟨j,rfl,hj,K,u,g,E⟩;have bS:=g.ok;have q3:=K.at f3;have d:=K.at J;have D:=K.at I;unfold qa;by_cases U:j<q.1.args.length
 .have wj:=cg ((j:Int)+1) ab ab;obtain⟨v,Q⟩:=aV q.1.args j U;obtain⟨b,cs,o,s,ha,hb,hjA,_,cZ,_⟩:=((E.W.at hy).ls q (cN hq)).el Q;have Z:=cZ 0 2 ag;have ni:=((E.W.at hy).ls q (cN hq)).len;simp[-ax] at Z;simp at d;rw[ha,ni] at d;simp[q3,d,D,u,U,Z,-ax,aH];have G:ay aZ h' (put (aK h' [.bool false,.int .i64 0] 0) h'.aw 0 [.bool false,.int .i64 0] [.bool v.1,.int .i64 v.2] 0):=(ay.refl bS).var _ _;generalize put (aK h' [.bool false,.int .i64 0] 0) h'.aw 0 _ _ 0=h2 at*;have k2:=E.ck bS G;refine bm.call (V:=NwQ N nb aB _ v h2) (aj (tj G.ok k2.w (hr.at (cN Q)) k.MN)) ?_;rintro _ h3⟨g3,Y,rfl⟩;simp[u,wj];refine⟨q.1.args.length-(j+1),ab,j+1,rfl,U,?_,ae,g.trans (G.ck.trans g3),k2.step G.ok g3 (by unfold u0 at Y⊢;rw[jy Q];exact Y)⟩
  exact aq
 .have:j=q.1.args.length:=ab
  subst this;rw[jT] at E;simp[D,u];exact C _ _ (aM.set K) g E
def NpZ(h:az)(n0:Nat)(B:SV)(ys:List YB)(N nb aB:Nat)(l:List Int)(ps:List (GP×SV))(e:Env)(m:Nat)(e':Env)(h':az):Prop:=
 ∃j:Nat,m=ps.length-j/\j<=ps.length/\aM NpL e e'/\bJ e' 52 j/\ay (z7 N nb) h h'/\NZ h' n0 B ys N nb aB (dh l ((ps.take j).flatMap fun q=>[q.1.dst]))
def ac0(ok:cr h)(k:NZ h n0 B ys N nb aB l)(hy:ys[i]?=some y)(hl:y.ps.length<=1048576)(hr:tC aB (y.ps.flatMap fun q=>[q.1.dst]))(f3:cm e 3 N)(M:bH e 50=y.P.v)(Q:bJ e 51 y.ps.length)(H:bJ e 52 0)(C:∀J h',aM NpL e J->ay (z7 N nb) h h'->NZ h' n0 B ys N nb aB (dh l (y.ps.flatMap fun q=>[q.1.dst]))->QQ (.exit 4) J h'):aO FF (.loop qc) e h QQ:=by
 refine aO.loop (NpZ h n0 B ys N nb aB l y.ps e) ?_ (n:=y.ps.length) ⟨0,rfl,ab,aM.refl _ _,H,.refl ok,k⟩;rintro m J h'⟨j,rfl,hj,K,u,g,G⟩;have bS:=g.ok;have q3:=K.at f3;have d:=K.at M;have D:=K.at Q;unfold qc;by_cases U:j<y.ps.length
 .have wj:=cg ((j:Int)+1) ab ab;obtain⟨q,I⟩:=aV y.ps j U;have R:=G.W.at hy;obtain⟨b,cs,o,s,ha,hb,_,_,cZ,_⟩:=R.P.el I;have Z:=cZ 0 2 ag;simp[-ax] at Z;have gY:=R.P.len;simp at d;rw[ha,gY] at d;simp[q3,d,D,u,U,Z,-ax,aH];have E:ay aZ h' (put (aK h' [.int .i64 0,.slice none 0 0] 0) h'.aw 0 [.int .i64 0,.slice none 0 0] [.int .i64 q.1.dst,.slice q.2.a q.2.l q.2.c] 0):=(ay.refl bS).var _ _;generalize put (aK h' [.int .i64 0,.slice none 0 0] 0) h'.aw 0 _ _ 0=h2 at*;have k2:=G.ck bS E;refine bm.call (V:=NnQ N nb aB _ q.1.dst h2) (aj (xr E.ok k2.w (hr.at (cN I) q.1.dst ae) k.MN)) ?_;rintro _ h3⟨Y,w3,rfl⟩;simp[u,wj];refine⟨y.ps.length-(j+1),ab,j+1,rfl,U,?_,ae,g.trans (E.ck.trans Y),k2.step E.ok Y (by rw[jy I];exact w3)⟩
  exact aq
 .have:j=y.ps.length:=ab
  subst this;rw[jT] at G;simp[D,u];exact C _ _ (aM.set K) g G
def NlZ(h:az)(n0:Nat)(B:SV)(ys:List YB)(N nb aB:Nat)(l:List Int)(d:List (GI×SV))(e:Env)(m:Nat)(e':Env)(h':az):Prop:=
 ∃j:Nat,m=d.length-j/\j<=d.length/\aM NlL e e'/\bJ e' 64 j/\ay (z7 N nb) h h'/\NZ h' n0 B ys N nb aB (dh l ((d.take j).flatMap fun q=>DH q.1))
def acZ(ok:cr h)(k:NZ h n0 B ys N nb aB l)(hy:ys[i]?=some y)(hl:y.ls.length<=1048576)(al:∀q∈y.ls,q.1.args.length<=1048576)(hr:tC aB (y.ls.flatMap fun q=>DH q.1))(f3:cm e 3 N)(f62:bH e 62=y.L.v)(f63:bJ e 63 y.ls.length)(f64:bJ e 64 0)(C:∀e' h',aM NlL e e'->ay (z7 N nb) h h'->NZ h' n0 B ys N nb aB (dh l (y.ls.flatMap fun q=>DH q.1))->QQ (.exit 6) e' h'):aO FF (.loop qb) e h QQ:=by
 refine aO.loop (NlZ h n0 B ys N nb aB l y.ls e) ?_ (n:=y.ls.length) ⟨0,rfl,ab,aM.refl _ _,f64,.refl ok,k⟩;rintro m e' h'⟨j,rfl,hj,K,d,g,H⟩;have bS:=g.ok;have Z:=K.at f3;have Zh:=K.at f62;have E:=K.at f63;unfold qb;by_cases bk:j<y.ls.length
 .have wj:=cg ((j:Int)+1) ab ab;obtain⟨q,hx⟩:=aV y.ls j bk;obtain⟨x,A⟩:=q;have Kl:=cN hx;have R:=H.W.at hy;obtain⟨b,cs,o,s,ha,hb,_,_,cZ,_⟩:=R.L.el hx;have rd:=cZ 0 8 ag;simp[-ax] at rd;have jt:=R.L.len;have ni:=(R.ls _ Kl).len;have hI:=hr.at Kl;simp at Zh;rw[ha,jt] at Zh;simp[Z,Zh,E,d,bk,rd,-ax,aH];refine bm.cut (fun U=>ay aZ h' U/\dg U h'.aw [.int .i64 x.op,.int .i64 x.dst,.bool x.a.1,.int .i64 x.a.2,.bool x.b.1,.int .i64 x.b.2,.int .i64 x.fn,.slice A.a A.l A.c]) ?_ ?_
  exact⟨(ay.refl bS).var _ _,h'.clock,by simp[bg]⟩;rintro U⟨G,sX,eC⟩;have k2:=H.ck bS G;obtain⟨lN,lnb⟩:=H.lt bS;have nX:¬z7 N nb h'.aw:=fun e=>by rcases e with e|e<;>omega
  refine bm.call (V:=NwQ N nb aB _ x.a U) (aj (tj G.ok k2.w hI.fst k.MN)) ?_;rintro _ h3⟨D,w3,rfl⟩;have k3:=k2.step G.ok D w3;have eD:=D.get G.ok eC nX;simp[Z,eD];refine bm.call (V:=NwQ N nb aB _ x.b h3) (aj (tj D.ok k3.w hI.snd.fst k.MN)) ?_;rintro _ h4⟨I,w4,rfl⟩;have k4:=k3.step D.ok I w4;have kR:=I.get D.ok eD nX;simp at ni;simp[kR];refine acY I.ok k4 hy hx (al _ Kl) hI.snd.snd.fst (au Z) ae (au ni) ae ?_;intro e5 h5 Y g5 k5;have oJ:=g5.get I.ok kR nX;have m3:=Y.at (t:=3) (ak Z);have J:cm e5 10 h'.aw:=Y.at ae;have Q:=Y.at (t:=64) (ak d);have G5:=g.trans (G.ck.trans (D.trans (I.trans g5)));have KK:aM NlL e e5:=by
   refine aM.trans ?_ (Y.cY)
   exact aq
  have u:=jy (f:=fun q:GI×SV=>DH q.1) hx l;unfold DH at u;rw[eF,eF,eF] at u;by_cases M:0<=x.dst
  .rw[bM M] at u;have hd1:=hI.snd.snd.snd x.dst (by rw[bM M];simp);simp[m3,J,oJ,M];refine bm.call (V:=NnQ N nb aB _ x.dst h5) (aj (xr g5.ok k5.w hd1 k.MN)) ?_;rintro _ h6⟨g6,w6,rfl⟩;simp[Q,wj];refine⟨y.ls.length-(j+1),ab,j+1,rfl,bk,?_,ae,G5.trans g6,k5.step g5.ok g6 (by unfold DH;rw[u];exact w6)⟩
   exact aq
  .rw[bU M] at u;simp[m3,J,oJ,M,Q,wj];refine⟨y.ls.length-(j+1),ab,j+1,rfl,bk,?_,ae,G5,by unfold DH;rw[u];exact k5⟩
   exact aq
 .have:j=y.ls.length:=ab
  subst this;rw[jT] at H;simp[E,d];exact C _ _ (aM.set K) g H
end
section
variable{n0:Nat}{B:SV}{ys:List YB}{N nb aB:Nat}{l:List Int}
structure SzZ(y:YB):Prop where
 p:y.ps.length<=100000
 l:y.ls.length<=100000
 r:∀q∈y.ps,q.1.row.length<=100000
 a:∀q∈y.ls,q.1.args.length<=100000
def abg(y:YB):Qr y.g=(y.ps.flatMap fun q=>[q.1.dst])++((y.ls.flatMap fun q=>DH q.1)++oz y.on):=by
 unfold Qr YB.g;rw[List.map_map,List.flatMap_map];congr 1;induction y.ps with
 |nil=>rfl
 |cons p m d=>rw[xX,List.flatMap_cons,d];rfl
def NbZ(h:az)(n0:Nat)(B:SV)(ys:List YB)(N nb aB:Nat)(l:List Int)(v1 v2:Value)(m:Nat)(e':Env)(h':az):Prop:=
 ∃j:Nat,m=ys.length-j/\j<=ys.length/\bH e' 1=v1/\bH e' 2=v2/\cm e' 3 N/\bH e' 43=B.v/\bJ e' 44 ys.length/\bJ e' 45 j/\ay (z7 N nb) h h'/\NZ h' n0 B ys N nb aB (dh l ((ys.take j).flatMap fun y=>Qr y.g))
def UR(ok:cr h)(k:NZ h n0 B ys N nb aB l)(hl:ys.length<50)(sz:∀y∈ys,SzZ y)(hr:tC aB (ys.flatMap fun y=>Qr y.g))(f1:bH e 1=v1)(f2:bH e 2=v2)(f3:cm e 3 N)(f43:bH e 43=B.v)(f44:bJ e 44 ys.length)(f45:bJ e 45 0)(C:∀G h',bH G 1=v1->bH G 2=v2->cm G 3 N->ay (z7 N nb) h h'->NZ h' n0 B ys N nb aB (dh l (ys.flatMap fun y=>Qr y.g))->QQ (.exit 2) G h'):aO FF (.loop qd) e h QQ:=by
 refine aO.loop (NbZ h n0 B ys N nb aB l v1 v2) ?_ (n:=ys.length) ⟨0,rfl,ab,f1,f2,f3,f43,f44,f45,.refl ok,k⟩;rintro m G h'⟨j,rfl,hj,q1,q2,I,M,OE,U3,g,D⟩;have bS:=g.ok;unfold qd;by_cases bk:j<ys.length
 .have wj:=cg ((j:Int)+1) ab ab;obtain⟨r,E⟩:=aV ys j bk;have hm:=cN E;have z:=sz r hm;have zp:=z.p;have zl:=z.l;have K:=hr.at hm;rw[abg] at K;have R:=D.W.at E;obtain⟨b,cs,o,s,ha,hb,_,_,cZ,_⟩:=D.W.A.el E;have rd:=cZ 0 6 ag;simp[-ax] at rd;have dT:=D.W.A.len;have gY:=R.P.len;have jt:=R.L.len;simp at M;rw[ha,dT] at M;simp[I,M,OE,U3,bk,rd,-ax,aH,gY];refine aO.cut (fun U=>ay aZ h' U/\dg U h'.aw [.slice r.P.a r.ps.length r.P.c,.slice r.L.a r.ls.length r.L.c,.int .i64 r.kind,.bool r.on.1,.int .i64 r.on.2,.slice r.T.a r.T.l r.T.c]) ?_ ?_
  exact⟨(ay.refl bS).var _ _,h'.clock,by simp[bg,gY,jt]⟩;rintro U⟨H,sX,eC⟩;have k2:=D.ck bS H;obtain⟨lN,lnb⟩:=D.lt bS;have nX:¬z7 N nb h'.aw:=fun e=>by rcases e with e|e<;>omega
  refine ac0 H.ok k2 E ab K.fst (au I) (au gY) ae ae ?_;intro e3 h3 d Q k3;have eD:=Q.get H.ok eC nX;have a1:=d.at (t:=1) (ak q1);have a2:=d.at (t:=2) (ak q2);have a3:=d.at (t:=3) (ak I);have a6:cm e3 6 h'.aw:=d.at ae;have a43:=d.at (t:=43) (ak M);have a44:=d.at (t:=44) (ak OE);have Z:=d.at (t:=45) (ak U3);simp[a6,eD];refine acZ Q.ok k3 E ab (fun q hq=>av (z.a q hq)) K.snd.fst (au a3) (au jt) ae ae ?_;intro e4 h4 u J k4;have kR:=J.get Q.ok eD nX;have b1:=u.at (t:=1) (ak a1);have b2:=u.at (t:=2) (ak a2);have b3:=u.at (t:=3) (ak a3);have b6:=u.at (t:=6) (ak a6);have Y:=u.at (t:=43) (ak a43);have b44:=u.at (t:=44) (ak a44);have b45:=u.at (t:=45) (ak Z);simp[b3,b6,kR];refine bm.call (V:=NwQ N nb aB _ r.on h4) (aj (tj J.ok k4.w K.snd.snd k.MN)) ?_;rintro _ h5⟨g5,w5,rfl⟩;have tk:=jy (f:=fun y:YB=>Qr y.g) E l;rw[abg,eF,eF] at tk;simp[b45,wj];exact⟨ys.length-(j+1),ab,j+1,rfl,bk,au b1,au b2,au b3,by simp[Y,ha,dT],au b44,ae,g.trans (H.ck.trans (Q.trans (J.trans g5))),k4.step J.ok g5 (by rw[tk];exact w5)⟩
 .have:j=ys.length:=ab
  subst this;rw[jT] at D;simp[OE,U3];exact C _ _ (au q1) (au q2) (au I) g D
def NqZ(h:az)(n0:Nat)(B:SV)(ys:List YB)(N nb aB:Nat)(p:Nat)(v1 v2:Value)(m:Nat)(e':Env)(h':az):Prop:=
 ∃j:Nat,m=p-j/\j<=p/\bH e' 1=v1/\bH e' 2=v2/\cm e' 3 N/\bJ e' 34 p/\bJ e' 35 j/\ay (z7 N nb) h h'/\NZ h' n0 B ys N nb aB (kT j)
def UZ(p:Nat):dN (kT p) p=kT (p+1):=by rw[Jr];unfold dN;rw[bU];unfold kT;simp;intro x d;omega
def US(Y:cr h)(k:NZ h n0 B ys N nb aB []){p:Nat}(hp:p<=aB)(U:bH e 1=v1)(Z:bH e 2=v2)(f3:cm e 3 N)(G:bJ e 34 p)(E:bJ e 35 0)(C:∀s h',bH s 1=v1->bH s 2=v2->cm s 3 N->ay (z7 N nb) h h'->NZ h' n0 B ys N nb aB (kT p)->QQ (.exit 0) s h'):aO FF (.loop qe) e h QQ:=by
 have DR:=k.MN;refine aO.loop (NqZ h n0 B ys N nb aB p v1 v2) ?_ (n:=p) ⟨0,rfl,ab,U,Z,f3,G,E,.refl Y,k⟩;rintro m s h'⟨j,rfl,hj,H,I,u,d,o,g,D⟩;unfold qe;by_cases J:j<p;have Q:=cg ((j:Int)+1) ab ab;simp[u,d,o,J];refine bm.call (V:=NnQ N nb aB _ (j:Int) h') (aj (xr g.ok D.w (r:=(j:Int)) ab k.MN)) ?_;rintro _ h3⟨K,M,rfl⟩;simp[o,Q];exact⟨p-(j+1),ab,j+1,rfl,J,au H,au I,au u,au d,ae,g.trans K,D.step g.ok K (by rw[<-UZ];exact M)⟩
 .have:j=p:=ab
  subst this;simp[d,o];exact C _ _ (au H) (au I) (au u) g D
end
end Go.Proofs.YtdhnndleffachaaGreatDoor
