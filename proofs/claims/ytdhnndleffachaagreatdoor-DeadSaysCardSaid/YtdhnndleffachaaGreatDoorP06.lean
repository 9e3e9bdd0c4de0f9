/- Parts of the proof. -/
import Derived.Test.YtdhnndleffachaaGreatDoorP05
import Derived.Test.YtdhnndleffachaaGreatDoorP04
set_option linter.all false
set_option maxHeartbeats 1000000
namespace Go.Proofs.YtdhnndleffachaaGreatDoor
open Go.AI
variable{A B L' L0 O P' P0 T0:SV}{F N X Y c i j j0 k m n n0 s sF sS sX:Nat}{QQ:bK->Env->az->Prop}{a need:List Bool}{aI p r rg:Int}{b:GB}{bs:List GB}{e:Env}{f:Int->Int}{h h' h0 h1 hs:az}{l l0 pk:List Int}{name:ByteArray}{ps:List GP}{q:GI×SV}{row vs:List (Bool×Int)}{v:Bool×Int}{ws:List SV}{x x':GI}{xc:List Value}{y y0:YB}{ys:List YB}{α β:Type}
structure WZ(h0 h:az)(n0:Nat)(B:SV)(gZ ys:List YB)(N nb aB:Nat)(l:List Int):Prop where
 k:NZ h n0 B ys N nb aB l
 x:wI B ys
 n0:n0<=h0.aw
 s:∀c,cx B ys c->cx B gZ c\/h0.aw<=c
 g:ay (fun c=>cx B gZ c\/z7 N nb c) h0 h
section
variable{h0 h h':az}{n0:Nat}{B:SV}{gZ ys Kd:List YB}{N nb aB:Nat}{l l':List Int}
def WZ.refl(k:NZ h n0 B ys N nb aB l)(x:wI B ys)(t:n0<=h.aw)(o:cr h):WZ h h n0 B ys ys N nb aB l:=⟨k,x,t,fun _ h=>.inl h,.refl o⟩
def WZ.adU(w:WZ h0 h n0 B gZ ys N nb aB l)(U:cM h h' n0 B ys B Kd):WZ h0 h' n0 B gZ Kd N nb aB l:=by
 have t:=w.g.ok;have G:=w.g.aw;obtain⟨C,D⟩:=w.k.lt t;have u:∀c,c<h.aw->¬cx B ys c->¬cx B Kd c:=fun c o E e=>(U.s c e).elim E ab;refine⟨⟨U.w,w.k.w.go t U.g w.k.nN w.k.nb,u _ C w.k.nN,u _ D w.k.nb,w.k.MN⟩,U.x w.x,w.n0,fun c o=>?_,w.g.trans' U.g ai fun c o h=>?_⟩
 rcases U.s c o with h|h;exact w.s c h;exact .inr ab;exact(w.s c h).elim .inl (fun h=>ab)
def WZ.nm(w:WZ h0 h n0 B gZ ys N nb aB l)(g:ay (z7 N nb) h h')(o:NmX h' N nb aB l'):WZ h0 h' n0 B gZ ys N nb aB l':=
 ⟨w.k.step w.g.ok g o,w.x,w.n0,w.s,w.g.trans' g ai fun _ _ h=>.inr h⟩
def WZ.ck(w:WZ h0 h n0 B gZ ys N nb aB l)(g:ay aZ h h'):WZ h0 h' n0 B gZ ys N nb aB l:=
 ⟨w.k.ck w.g.ok g,w.x,w.n0,w.s,w.g.trans g.ck⟩
def WZ.box(w:WZ h0 h n0 B gZ ys N nb aB l)(g:ay (· =Y) h h')(D:h0.aw<=Y)(C:¬cx B ys Y)(u:¬z7 N nb Y):WZ h0 h' n0 B gZ ys N nb aB l:=
 ⟨⟨w.k.W.go w.g.ok g (fun c o t e=>C ⟨o,t▸e⟩),w.k.w.go w.g.ok g (fun e=>u (.inl e.symm)) (fun e=>u (.inr e.symm)),w.k.nN,w.k.nb,w.k.MN⟩,w.x,w.n0,w.s,w.g.trans' g ai fun c t e=>ab⟩
def WZ.trans{t:List YB}(w:WZ h0 h1 n0 B gZ t N nb aB l)(v:WZ h1 h n0 B t ys N nb aB l'):WZ h0 h n0 B gZ ys N nb aB l':=
 ⟨v.k,v.x,w.n0,fun c o=>(v.s c o).elim (w.s c) (fun h=>.inr (av w.g.aw)),w.g.trans' v.g ai fun c o h=>h.elim (fun h=>(w.s c h).elim .inl (fun h=>ab)) .inr⟩
def WZ.no(w:WZ h0 h n0 B gZ ys N nb aB l)(t:c<h0.aw)(o:¬cx B gZ c):¬cx B ys c:=fun e=>(w.s c e).elim o ab
def um{l L:List Int}(h:l <+: L)(o:∀r∈oz v,r∈l):bq l v=bq L v:=by unfold bq;by_cases e:v.1=true;rw[bM e,bM e,yq h (o v.2 (by unfold oz;rw[bM e];simp))];rw[bU e,bU e]
def zP{f:α->List Int}{xs:List α}{x:α}(o:xs[j]?=some x){l L:List Int}(h:dh l (xs.flatMap f) <+: L):dh (dh l ((xs.take j).flatMap f)) (f x) <+: L:=by
 refine List.IsPrefix.trans ?_ h;rw[<-jy o];have e:xs.flatMap f=(xs.take (j+1)).flatMap f++(xs.drop (j+1)).flatMap f:=by rw[<-List.flatMap_append,List.take_append_drop]
 rw[e,eF];exact n9 _ _
def Mu{α β γ:Type}{f:α×β->γ}{F:γ->γ}{d ps:List (α×β)}{q:α×β}{x:α×β}(t:ps[j]?=some q)(e:d.map f=((ps.map f).take j).map F)(o:f x=F (f q):=by rfl):(d++[x]).map f=((ps.map f).take (j+1)).map F:=by rw[List.map_append,e,lg,js,t,List.map_append];simp[o]
def CQ(y:YB)(j:Nat)(x:GI)(A:SV):YB:= {y with ls:=y.ls.set j (x,A)}
def WaZ(h:az)(n0:Nat)(B:SV)(ys:List YB)(N nb aB:Nat)(l L:List Int)(i j0:Nat)(y:YB)(x:GI)(A:SV)(e:Env)(m:Nat)(e':Env)(h':az):Prop:=
 ∃j:Nat,m=x.args.length-j/\j<=x.args.length/\aM WaL e e'/\bJ e' 164 j/\WZ h h' n0 B ys (ys.set i (CQ y j0 {x with args:=(x.args.take j).map (bq L)++x.args.drop j} A)) N nb aB (dh l (u0 (x.args.take j)))
def ajP(ok:cr h)(k:NZ h n0 B ys N nb aB l)(xi:wI B ys)(hn:n0<=h.aw){L:List Int}(hy:ys[i]?=some y)(hq:y.ls[j0]?=some (x,A))(hL:dh l (u0 x.args) <+: L)(hr:tC aB (u0 x.args))(hl:x.args.length<=1048576)(hX:fC h X xc sX)(oX:¬cx B ys X)(nX:¬z7 N nb X)(Yg:(xc.drop 7).take 1=[A.v])(f3:cm e 3 N)(fX:cm e 20 X)(fA:bH e 162=A.v)(fl:bJ e 163 x.args.length)(fj:bJ e 164 0)(C:∀e' h',aM WaL e e'->WZ h h' n0 B ys (ys.set i (CQ y j0 {x with args:=x.args.map (bq L)} A)) N nb aB (dh l (u0 x.args))->QQ (.exit 18) e' h'):aO FF (.loop pX) e h QQ:=by
 have gh:=(di.mp hy).1;have hj0:=(di.mp hq).1;have self:ys.set i (CQ y j0 {x with args:=(x.args.take 0).map (bq L)++x.args.drop 0} A)=ys:=by
  have:CQ y j0 {x with args:=(x.args.take 0).map (bq L)++x.args.drop 0} A=y:=by unfold CQ;rw[show y.ls.set j0 ({x with args:=(x.args.take 0).map (bq L)++x.args.drop 0},A)=y.ls from Lj hq]
  rw[this];exact Lj hy
 refine aO.loop (WaZ h n0 B ys N nb aB l L i j0 y x A e) ?_ (n:=x.args.length) ⟨0,rfl,ab,aM.refl _ _,fj,by rw[self];exact .refl k xi hn ok⟩;rintro m e' h'⟨j,rfl,hj,K,qj,w⟩;have g:=w.g;have H:=g.ok;have q3:=K.at f3;have qX:=K.at fX;have qA:=K.at fA;have ql:=K.at fl;have dj:=g.get ok hX (fun e=>e.elim oX nX);have lX0:=ok.wf _ _ hX;have xG:7+1<=xc.length:=by have:=congrArg List.length Yg;simp at this;omega
 unfold pX;by_cases bk:j<x.args.length
 .have wj:=cg ((j:Int)+1) ab ab;obtain⟨v,I⟩:=aV x.args j bk;obtain⟨D,E⟩:∃D,D=(x.args.take j).map (bq L)++x.args.drop j:=⟨_,rfl⟩;have CD:((x.args.take j).map (bq L)).length=j:=by simp;omega
  have hvj:D[j]?=some v:=by rw[E,j6 CD,I]
  have x5:D.length=x.args.length:=by rw[E];simp;omega
  rw[<-E] at w;obtain⟨t,BG⟩:∃t,t=CQ y j0 {x with args:=D} A:=⟨_,rfl⟩;rw[<-BG] at w;have yT:(ys.set i t)[i]?=some t:=by rw[fL,bM rfl,bM gh]
  have J:t.ls[j0]?=some ({x with args:=D},A):=by rw[BG];simp[CQ,hj0]
  have Y1:=w.k.W.at yT;have AV:eo cC h' A D:=Y1.ls _ (cN J);obtain⟨b,cs,o,s,ha,hb,hjA,dQ,cZ,fu⟩:=AV.el hvj;have ni:=AV.len;rw[x5] at ni;have rd:=cZ 0 2 ag;simp[-ax] at rd;simp at qA;rw[ha,ni] at qA;have Uu:(xc.drop 7).take 1=[.slice (some ⟨b,0,none⟩) x.args.length A.c]:=by rw[Yg];simp[ha,ni]
  have rX:cD h' X 7 1=some [.slice (some ⟨b,0,none⟩) x.args.length A.c]:=by rw[fD dj xG,Uu]
  have Z:=H.cn dj;have Ho:=H.st _ _ _ _ _ dj;have lX:=Z.lt;have nXn:¬X=h'.aw:=ab
  have lb:=H.wf _ _ hb;simp[q3,qX,qA,ql,qj,bk,rd,rX,Z,nXn,-ax,aH,cH,bw,aQ];refine cu.cut (fun h2=>ay aZ h' h2) ((ay.refl H).var _ _).tick ?_;intro h2 Q;have w2:=w.ck Q;have eC:=Q.get H dj;have pz:=Q.get H hb;refine cu.call (V:=NwQ N nb aB _ v h2) (aj (tj Q.ok w2.k.w (hr.at (cN I)) k.MN)) ?_;rintro _ h3⟨W,w3,rfl⟩;have G:=w2.nm W w3;have Rw:cx B (ys.set i t) b:=⟨some (i,.X j0),by rw[cz yT,YB.mm J];exact cy ha⟩;have nbS:¬z7 N nb b:=fun e=>by rcases e with e|e;exact w.k.nN (e▸Rw);exact w.k.nb (e▸Rw)
  have eD:=W.get Q.ok eC nX;have Pl:=W.get Q.ok pz nbS;have hf:=dQ 0 2 ag;simp at hf;have IK:sX<=h'.clock+1:=ab
  obtain⟨u,eu⟩:∃u,u=bq (dh (dh l (u0 (x.args.take j))) (oz v)) v:=⟨_,rfl⟩;rw[<-eu];simp[qX,eD,IK,bk,Pl,hf,qj,wj];have g4:=aY (off:=j*2) (vs:=[Value.bool u.1,Value.int .i64 u.2]) W.ok Pl;have A4:=fu u 0 [Value.bool u.1,Value.int .i64 u.2] ae rfl (put h3 b (j*2) cs [Value.bool u.1,Value.int .i64 u.2] o) ⟨h3.clock,ae⟩;generalize put h3 b (j*2) cs [Value.bool u.1,Value.int .i64 u.2] o=h4 at*;have Y3:=G.k.W.at yT;have L4:eo gu h4 t.L (t.ls.set j0 ({x with args:=D.set j u},A)):=by refine(Y3.L.go W.ok g4 fun c hc e=>?_).aa6 ?_;have:=G.k.W.IP yT .L (.X j0) c e (by rw[YB.mm J,hc];exact cy ha);cases this;rw[List.map_set];have:t.ls.map gu.enc=(t.ls.map gu.enc).set j0 (gu.enc ({x with args:=D},A)):=(Lj (by rw[js,J];rfl)).symm;rw[this,xF];rfl
  have U:=(cM.refl G.k.W W.ok).ins (p':=({x with args:=D.set j u},A)) G.x (av G.g.aw) yT J (g4.cY (fun c _ e=>.inl ⟨.X j0,.inr rfl,by rw[YB.mm J,e];exact cy ha⟩)) L4 A4 (fun c hc=>.inl hc);have W4:=G.adU U;rw[xF] at W4;have pre:=zP (f:=oz) I hL;have hu:u=bq L v:=by rw[eu];exact um pre (fun r hr=>uj _ _ hr)
  have e1:({ t with ls:=t.ls.set j0 ({x with args:=D.set j u},A) } :YB)=CQ y j0 {x with args:=(x.args.take (j+1)).map (bq L)++x.args.drop (j+1)} A:=by rw[BG,E];unfold CQ;dsimp only;rw[xF,set_drop CD I,hu,lg,I,List.map_append];rfl
  rw[e1] at W4;refine⟨x.args.length-(j+1),ab,j+1,rfl,bk,?_,ae,by unfold u0 at W4⊢;rw[jy I];exact W4⟩
  exact aq
 .have:j=x.args.length:=ab
  subst this;rw[jT,List.drop_length,Bc] at w;simp[ql,qj];exact C _ _ (aM.set K) w
def WrZ(h:az)(n0:Nat)(B:SV)(ys:List YB)(N nb aB:Nat)(l L:List Int)(i j0:Nat)(y:YB)(d:Int)(row:List (Bool×Int))(A:SV)(e:Env)(m:Nat)(e':Env)(h':az):Prop:=
 ∃j:Nat,m=row.length-j/\j<=row.length/\aM WrL e e'/\bJ e' 129 j/\WZ h h' n0 B ys (ys.set i (ou y j0 d A ((row.take j).map (bq L)++row.drop j))) N nb aB (dh l (u0 (row.take j)))
def ajQ(ok:cr h)(k:NZ h n0 B ys N nb aB l)(xi:wI B ys)(hn:n0<=h.aw){L:List Int}{d:Int}(hy:ys[i]?=some y)(hq:y.ps[j0]?=some (⟨d,row⟩,A))(hL:dh l (u0 row) <+: L)(hr:tC aB (u0 row))(hl:row.length<=1048576)(hX:fC h X xc sX)(oX:¬cx B ys X)(nX:¬z7 N nb X)(Yg:(xc.drop 1).take 1=[A.v])(f3:cm e 3 N)(fX:cm e 16 X)(fA:bH e 127=A.v)(fl:bJ e 128 row.length)(fj:bJ e 129 0)(C:∀e' h',aM WrL e e'->WZ h h' n0 B ys (ys.set i (ou y j0 d A (row.map (bq L)))) N nb aB (dh l (u0 row))->QQ (.exit 14) e' h'):aO FF (.loop pZ) e h QQ:=by
 have gh:=(di.mp hy).1;have hj0:=(di.mp hq).1;have self:ys.set i (ou y j0 d A ((row.take 0).map (bq L)++row.drop 0))=ys:=by
  have:ou y j0 d A ((row.take 0).map (bq L)++row.drop 0)=y:=by unfold ou;rw[show y.ps.set j0 (⟨d,(row.take 0).map (bq L)++row.drop 0⟩,A)=y.ps from Lj hq]
  rw[this];exact Lj hy
 refine aO.loop (WrZ h n0 B ys N nb aB l L i j0 y d row A e) ?_ (n:=row.length) ⟨0,rfl,ab,aM.refl _ _,fj,by rw[self];exact .refl k xi hn ok⟩;rintro m e' h'⟨j,rfl,hj,K,qj,w⟩;have g:=w.g;have G:=g.ok;have q3:=K.at f3;have qX:=K.at fX;have qA:=K.at fA;have ql:=K.at fl;have dj:=g.get ok hX (fun e=>e.elim oX nX);have lX0:=ok.wf _ _ hX;have xG:1+1<=xc.length:=by have:=congrArg List.length Yg;simp at this;omega
 unfold pZ;by_cases bk:j<row.length
 .have wj:=cg ((j:Int)+1) ab ab;obtain⟨v,H⟩:=aV row j bk;obtain⟨D,E⟩:∃D,D=(row.take j).map (bq L)++row.drop j:=⟨_,rfl⟩;have CD:((row.take j).map (bq L)).length=j:=by simp;omega
  have hvj:D[j]?=some v:=by rw[E,j6 CD,H]
  have x5:D.length=row.length:=by rw[E];simp;omega
  rw[<-E] at w;obtain⟨t,BG⟩:∃t,t=ou y j0 d A D:=⟨_,rfl⟩;rw[<-BG] at w;have yT:(ys.set i t)[i]?=some t:=by rw[fL,bM rfl,bM gh]
  have I:t.ps[j0]?=some (⟨d,D⟩,A):=by rw[BG];simp[ou,hj0]
  have Y1:=w.k.W.at yT;have AV:eo cC h' A D:=Y1.ps _ (cN I);obtain⟨b,cs,o,s,ha,hb,hjA,dQ,cZ,fu⟩:=AV.el hvj;have ni:=AV.len;rw[x5] at ni;have rd:=cZ 0 2 ag;simp[-ax] at rd;simp at qA;rw[ha,ni] at qA;have Uu:(xc.drop 1).take 1=[.slice (some ⟨b,0,none⟩) row.length A.c]:=by rw[Yg];simp[ha,ni]
  have rX:cD h' X 1 1=some [.slice (some ⟨b,0,none⟩) row.length A.c]:=by rw[fD dj xG,Uu]
  have Z:=G.cn dj;have Ho:=G.st _ _ _ _ _ dj;have lX:=Z.lt;have nXn:¬X=h'.aw:=ab
  have lb:=G.wf _ _ hb;simp[q3,qX,qA,ql,qj,bk,rd,rX,Z,nXn,-ax,aH,cH,bw,aQ];refine cu.cut (fun h2=>ay aZ h' h2) ((ay.refl G).var _ _).tick ?_;intro h2 J;have w2:=w.ck J;have eC:=J.get G dj;have pz:=J.get G hb;refine cu.call (V:=NwQ N nb aB _ v h2) (aj (tj J.ok w2.k.w (hr.at (cN H)) k.MN)) ?_;rintro _ h3⟨Q,w3,rfl⟩;have W:=w2.nm Q w3;have Rw:cx B (ys.set i t) b:=⟨some (i,.R j0),by rw[cz yT,YB.jN I];exact cy ha⟩;have nbS:¬z7 N nb b:=fun e=>by rcases e with e|e;exact w.k.nN (e▸Rw);exact w.k.nb (e▸Rw)
  have eD:=Q.get J.ok eC nX;have Pl:=Q.get J.ok pz nbS;have hf:=dQ 0 2 ag;simp at hf;have IK:sX<=h'.clock+1:=ab
  obtain⟨u,eu⟩:∃u,u=bq (dh (dh l (u0 (row.take j))) (oz v)) v:=⟨_,rfl⟩;rw[<-eu];simp[qX,eD,IK,bk,Pl,hf,qj,wj];have g4:=aY (off:=j*2) (vs:=[Value.bool u.1,Value.int .i64 u.2]) Q.ok Pl;have A4:=fu u 0 [Value.bool u.1,Value.int .i64 u.2] ae rfl (put h3 b (j*2) cs [Value.bool u.1,Value.int .i64 u.2] o) ⟨h3.clock,ae⟩;generalize put h3 b (j*2) cs [Value.bool u.1,Value.int .i64 u.2] o=h4 at*;have Y3:=W.k.W.at yT;have P4:eo iG h4 t.P (t.ps.set j0 (⟨d,D.set j u⟩,A)):=by refine(Y3.P.go Q.ok g4 fun c hc e=>?_).aa6 ?_;have:=W.k.W.IP yT .P (.R j0) c e (by rw[YB.jN I,hc];exact cy ha);cases this;rw[List.map_set];have:t.ps.map iG.enc=(t.ps.map iG.enc).set j0 (iG.enc (⟨d,D⟩,A)):=(Lj (by rw[js,I];rfl)).symm;rw[this,xF];rfl
  have U:=(cM.refl W.k.W Q.ok).row (p':=(⟨d,D.set j u⟩,A)) (av W.g.aw) yT I (g4.cY (fun c _ e=>.inl ⟨.R j0,.inr rfl,by rw[YB.jN I,e];exact cy ha⟩)) P4 A4 (fun c hc=>.inl hc);have W4:=W.adU U;rw[xF] at W4;have pre:=zP (f:=oz) H hL;have hu:u=bq L v:=by rw[eu];exact um pre (fun r hr=>uj _ _ hr)
  have e1:({t with ps:=t.ps.set j0 (⟨d,D.set j u⟩,A)} :YB)=ou y j0 d A ((row.take (j+1)).map (bq L)++row.drop (j+1)):=by rw[BG,E];unfold ou;dsimp only;rw[xF,set_drop CD H,hu,lg,H,List.map_append];rfl
  rw[e1] at W4;refine⟨row.length-(j+1),ab,j+1,rfl,bk,?_,ae,by unfold u0 at W4⊢;rw[jy H];exact W4⟩
  exact aq
 .have:j=row.length:=ab
  subst this;rw[jT,List.drop_length,Bc] at w;simp[ql,qj];exact C _ _ (aM.set K) w
end
def yO(p:GP):List Int:=[p.dst]++u0 p.row
def CL(L:List Int)(p:GP):GP:=⟨aR L p.dst,p.row.map (bq L)⟩
section
variable{h:az}{n0:Nat}{B:SV}{ys:List YB}{N nb aB:Nat}{l:List Int}
def WpZ(h:az)(n0:Nat)(B:SV)(ys:List YB)(N nb aB:Nat)(l L:List Int)(i:Nat)(y:YB)(e:Env)(m:Nat)(e':Env)(h':az):Prop:=
 ∃(j:Nat) (d:List (GP×SV)),m=y.ps.length-j/\j<=y.ps.length/\d.length=j/\aM WpL e e'/\bJ e' 112 j/\WZ h h' n0 B ys (ys.set i {y with ps:=d++y.ps.drop j}) N nb aB (dh l ((y.ps.take j).flatMap fun q=>yO q.1))/\d.map (·.1)=((y.ps.map (·.1)).take j).map (CL L)
def YJ(ok:cr h)(k:NZ h n0 B ys N nb aB l)(xi:wI B ys)(hn:n0<=h.aw){L:List Int}(hy:ys[i]?=some y)(hL:dh l (y.ps.flatMap fun q=>yO q.1) <+: L)(hr:tC aB (y.ps.flatMap fun q=>yO q.1))(hl:y.ps.length<=1048576)(yb:∀q∈y.ps,q.1.row.length<=1048576)(hX:fC h X xc sX)(oX:¬cx B ys X)(nX:¬z7 N nb X)(Yg:xc.take 1=[y.P.v])(f3:cm e 3 N)(f14:cm e 14 X)(f110:bH e 110=y.P.v)(f111:bJ e 111 y.ps.length)(f112:bJ e 112 0)(C:∀e' h' qs,aM WpL e e'->WZ h h' n0 B ys (ys.set i {y with ps:=qs}) N nb aB (dh l (y.ps.flatMap fun q=>yO q.1))->qs.map (·.1)=(y.ps.map (·.1)).map (CL L)->QQ (.exit 12) e' h'):aO FF (.loop p8) e h QQ:=by
 have gh:=(di.mp hy).1;have self:ys.set i {y with ps:=[]++y.ps.drop 0} =ys:=Lj hy;refine aO.loop (WpZ h n0 B ys N nb aB l L i y e) ?_ (n:=y.ps.length) ⟨0,[],rfl,ab,rfl,aM.refl _ _,f112,by rw[self];exact .refl k xi hn ok,ae⟩;rintro m e' h'⟨j,d,rfl,hj,hd,K,W,w,Md⟩;have g:=w.g;have Q:=g.ok;have q3:=K.at f3;have xy:=K.at f14;have J:=K.at f110;have apJ:=K.at f111;have dj:=g.get ok hX (fun e=>e.elim oX nX);have lX0:=ok.wf _ _ hX;have xG:1<=xc.length:=by have:=congrArg List.length Yg;simp at this;omega
 unfold p8;by_cases bk:j<y.ps.length
 .have wj:=cg ((j:Int)+1) ab ab;obtain⟨q,DQ⟩:=aV y.ps j bk;have hq:=j6 (qs:=y.ps) hd;rw[DQ] at hq;obtain⟨D,I⟩:∃D:YB,D= {y with ps:=d++y.ps.drop j} :=⟨_,rfl⟩;rw[<-I] at w;have yT:(ys.set i D)[i]?=some D:=by rw[fL,bM rfl,bM gh]
  have ue:D.ps[j]?=some q:=by rw[I];exact hq
  have R:=w.k.W.at yT;have RP:eo iG h' y.P D.ps:=by have:=R.P;rw[I] at this⊢;exact this
  have hdl:D.ps.length=y.ps.length:=by rw[I];simp;omega
  obtain⟨bP,cs,o,s,ha,hb,_,dQ,cZ,_⟩:=RP.el ue;have rd:=cZ 0 2 ag;simp[-ax] at rd;have gY:=RP.len;have AV:=R.ps q (cN ue);have ni:=AV.len;have hI:=hr.at (cN DQ);simp at J;rw[ha,gY,hdl] at J;have Uu:(xc.drop 0).take 1=[.slice (some ⟨bP,0,none⟩) y.ps.length y.P.c]:=by rw[List.drop_zero,Yg];simp[ha,gY,hdl]
  have rX:cD h' X 0 1=some [.slice (some ⟨bP,0,none⟩) y.ps.length y.P.c]:=by rw[fD dj ab,Uu]
  have oX':=Q.cn dj;have Ho:=Q.st _ _ _ _ _ dj;have lX:=oX'.lt;have nXn:¬X=h'.aw:=ab
  simp[q3,xy,J,apJ,W,bk,rd,rX,oX',nXn,-ax,aH,cH,bw,aQ];refine cu.cut (fun h2=>ay aZ h' h2/\dg h2 h'.aw [.int .i64 q.1.dst,.slice q.2.a q.2.l q.2.c]) ?_ ?_;exact⟨((ay.refl Q).var _ _).tick,h'.clock,by simp[bg]⟩;rintro h2⟨g2,s2,Ua⟩;have w2:=w.ck g2;have eC:=g2.get Q dj;refine cu.call (V:=NnQ N nb aB _ q.1.dst h2) (aj (xr g2.ok w2.k.w (hI q.1.dst (by simp[yO])) k.MN)) ?_;rintro _ h3⟨H,w3,rfl⟩;have W3:=w2.nm H w3;have eD:=H.get g2.ok eC nX;obtain⟨lN,lnb⟩:=w.k.lt Q;have nY:¬z7 N nb h'.aw:=fun e=>by rcases e with e|e<;>omega
  have SO:=H.get g2.ok Ua nY;have Y3:=W3.k.W.at yT;have P3:eo iG h3 y.P D.ps:=by have:=Y3.P;rw[I] at this⊢;exact this
  obtain⟨bP',cs3,o3,s3,ha3,Pl,_,QD,_,QN⟩:=P3.el ue;rw[ha] at ha3;cases ha3;have hf:=QD 0 1 ag;simp at hf;have IK:sX<=h'.clock+1:=ab
  have lP:D.loc .P=some bP:=by rw[I];exact cy ha
  have apH:cx B (ys.set i D) bP:=⟨some (i,.P),by rw[cz yT];exact lP⟩;have nYP:¬h'.aw=bP:=fun e=>av (w.k.W.mo Q apH)
  have noX:¬cx B (ys.set i D) X:=w.no lX0 oX;obtain⟨u,eu⟩:∃u,u=aR (dN (dh l ((y.ps.take j).flatMap fun q=>yO q.1)) q.1.dst) q.1.dst:=⟨_,rfl⟩;rw[<-eu];simp[xy,eD,IK,bk,Pl,hf,nYP,SO];have g4:=aY (off:=j*2) (vs:=[Value.int .i64 u]) H.ok Pl;have hP4:=QN (⟨u,q.1.row⟩,q.2) 0 [.int .i64 u] ae rfl (put h3 bP (j*2) cs3 [Value.int .i64 u] o3) ⟨h3.clock,ae⟩;have XW:=g4.get H.ok SO nYP;have kR:=g4.get H.ok eD (fun e=>noX (e▸apH));generalize put h3 bP (j*2) cs3 [Value.int .i64 u] o3=h4 at*;have l2:=g2.ok.wf _ _ Ua;have l3:=H.aw;have l4:=g4.aw;have A3:=Y3.ps q (cN ue);have U:=(cM.refl W3.k.W H.ok).row (p':=(⟨u,q.1.row⟩,q.2)) (av W3.g.aw) yT ue (g4.cY (fun c _ e=>.inl ⟨.P,.inl rfl,by rw[e];exact lP⟩)) (by rw[I] at hP4⊢;exact hP4) (A3.go H.ok g4 fun c hc e=>by have:=W3.k.W.IP yT .P (.R j) c (by rw[hc];exact lP) (by rw[YB.jN ue];exact e);cases this) (fun c hc=>.inl hc)
  have Z:=W3.adU U;rw[xF] at Z;obtain⟨y2,G⟩:∃y2:YB,y2= {D with ps:=D.ps.set j (⟨u,q.1.row⟩,q.2)} :=⟨_,rfl⟩;rw[<-G] at Z;have hy2:(ys.set i y2)[i]?=some y2:=by rw[fL,bM rfl,bM gh]
  have hq2:y2.ps[j]?=some (⟨u,q.1.row⟩,q.2):=by rw[G];simp[(di.mp ue).1]
  have E:=zP (f:=fun q:GP×SV=>yO q.1) DQ hL;unfold yO at E;rw[eF] at E;have noY:¬cx B (ys.set i y2) h'.aw:=fun e=>by rcases(U.s h'.aw (by rw[xF,<-G];exact e)) with h|h;have:=w.k.W.mo Q h;omega;omega
  refine ajQ Z.g.ok Z.k Z.x (av Z.g.aw) hy2 hq2 E hI.snd (yb q (cN DQ)) XW noY nY rfl (au q3) ae ae (au ni) ae ?_;intro e5 h5 K5 W5;have awN:=K5.at (t:=112) (ak W);simp[awN,wj];have W6:=Z.trans W5;rw[xF] at W6;have hu:u=aR L q.1.dst:=by rw[eu];exact(yq (List.IsPrefix.trans (n9 _ _) E) (Fp _ _)).symm
  refine⟨y.ps.length-(j+1),ab,j+1,d++[(CL L q.1,q.2)],rfl,bk,au hd,?_,ae,?_,Mu DQ Md⟩
  .refine aM.set (aM.set (aM.trans ?_ (K5.cY)))
   exact aq
  .have e1:ou y2 j u q.2 (q.1.row.map (bq L))= {y with ps:=(d++[(CL L q.1,q.2)])++y.ps.drop (j+1)} :=by rw[G,I];unfold ou CL;dsimp only;rw[xF,set_drop hd DQ,hu]
   rw[e1] at W6;rw[jy DQ];unfold yO at W6⊢;rw[eF];exact W6
 .have:j=y.ps.length:=ab
  subst this;rw[List.drop_length,Bc,jT] at w;simp[apJ,W];exact C _ _ d (aM.set K) w (by rw[Md,pg ae])
end
def vb(L:List Int)(x:GI):GI:=⟨x.op,if 0<=x.dst then aR L x.dst else x.dst,bq L x.a,bq L x.b,x.fn,x.args.map (bq L)⟩
section
variable{h:az}{n0:Nat}{B:SV}{ys:List YB}{N nb aB:Nat}{l:List Int}
def ad0(G:cr h)(k:NZ h n0 B ys N nb aB l)(xi:wI B ys)(hn:n0<=h.aw)(Z:tC aB (oz x.a))(Ut:tC aB (oz x.b)){Y sY h0:Nat}(I:fC h Y [.int .i64 x.op,.int .i64 x.dst,.bool x.a.1,.int .i64 x.a.2,.bool x.b.1,.int .i64 x.b.2,.int .i64 x.fn,.slice A.a A.l A.c] sY)(oY:¬cx B ys Y)(J:¬z7 N nb Y)(f3:cm e 3 N)(t:cm e 20 Y)(C:∀e' h' s,aM WlD e e'->ay (fun z=>z7 N nb z\/z=Y) h h'->NZ h' n0 B ys N nb aB (dh (dh l (oz x.a)) (oz x.b))->h'.tr.get Y=some (.bZ [.int .i64 x.op,.int .i64 x.dst,.bool (bq (dh l (oz x.a)) x.a).1,.int .i64 (bq (dh l (oz x.a)) x.a).2,.bool (bq (dh (dh l (oz x.a)) (oz x.b)) x.b).1,.int .i64 (bq (dh (dh l (oz x.a)) (oz x.b)) x.b).2,.int .i64 x.fn,.slice A.a A.l A.c] false 0 s)->QQ .normal e' h'):aO FF VF e h QQ:=by
 have oY':=G.cn I;have Ho:=G.st _ _ _ _ _ I;unfold VF;simp[f3,t,I,aF I,oY'];have Q:=(bC G).ok;have K:ay aZ h (tick h):=bC G;generalize tick h=h1 at Q K⊢;have k1:=k.ck G K;have W:=K.get G I;refine cu.call (V:=NwQ N nb aB l x.a h1) (aj (tj Q k1.w Z k.MN)) ?_;rintro _ h2⟨E,w2,rfl⟩;have k2:=k1.step Q E w2;have Ua:=E.get Q W J;simp[t,Ua,Ho];refine cu.call (V:=NwQ N nb aB _ x.b h2) (aj (tj E.ok k2.w Ut k.MN)) ?_;rintro _ h3⟨D,w3,rfl⟩;have H:=k2.step E.ok D w3;have SO:=D.get E.ok Ua J;simp[t,SO];obtain⟨u,eu⟩:∃u,u=bq (dh l (oz x.a)) x.a:=⟨_,rfl⟩;obtain⟨w,ew⟩:∃u,u=bq (dh (dh l (oz x.a)) (oz x.b)) x.b:=⟨_,rfl⟩;rw[<-eu,<-ew] at C⊢;have U:=((ay.refl D.ok).put (S:=(· =Y)) (off:=2) (vs:=[Value.bool u.1,Value.int .i64 u.2]) ⟨_,SO⟩ (.inr rfl)).put (b:=Y) (off:=4) (cs:=[.int .i64 x.op,.int .i64 x.dst,.bool u.1,.int .i64 u.2,.bool x.b.1,.int .i64 x.b.2,.int .i64 x.fn,.slice A.a A.l A.c]) (o:=0) (vs:=[Value.bool w.1,Value.int .i64 w.2]) ⟨h3.clock,by simp[bg]⟩ (.inr rfl);refine C _ _ (h3.clock+1) ?_ ?_ ?_ ?_
 .repeat (refine aM.set ?_)
  exact aM.refl _ _
 exact((K.ck.trans (E.cY (fun z _ h=>.inl h))).trans (D.cY (fun z _ h=>.inl h))).trans (U.cY (fun z _ h=>.inr h));exact⟨H.W.go D.ok U (fun c o hc e=>oY ⟨o,hc▸e⟩),H.w.go D.ok U (fun e=>J (.inl e.symm)) (fun e=>J (.inr e.symm)),H.nN,H.nb,H.MN⟩;rw[aP];rfl
def SB(E:cr h)(k:NZ h n0 B ys N nb aB l)(V:wI B ys)(hn:n0<=h.aw)(K:ys[i]?=some y)(u:y.ls[j]?=some (x,A))(py:x'.args=x.args)(hX:fC h X xc sX)(Z:(xc.drop 1).take 1=[y.L.v]){Y sY:Nat}(hY:fC h Y (gu.enc (x',A)) sY)(I:cm e 14 X)(H:bJ e 19 j)(J:cm e 20 Y)(C:∀W h',aM [185,186,187,188,189] e W->WZ h h' n0 B ys (ys.set i (CQ y j x' A)) N nb aB l->QQ .normal W h'):aO FF VE e h QQ:=by
 have R:=k.W.at K;obtain⟨D,cs,o,s,w,t,_,dQ,_,fu⟩:=R.L.el u;have bk:=(di.mp u).1;have jt:=R.L.len;have xG:1+1<=xc.length:=by have:=congrArg List.length Z;simp at this;omega
 have Uu:(xc.drop 1).take 1=[.slice (some ⟨D,0,none⟩) y.ls.length y.L.c]:=by rw[Z];simp[w,jt]
 have rX:cD h X 1 1=some [.slice (some ⟨D,0,none⟩) y.ls.length y.L.c]:=by rw[fD hX xG,Uu]
 have hf:=dQ 0 8 ag;simp at hf;have G:=hY;simp only[Ii] at G;simp at G;have lL:y.loc .L=some D:=cy w;unfold VE;simp[I,H,J,rX,G,aF G,bk,t,hf,-ax];have g4:=aY (off:=j*8) (vs:=[Value.int .i64 x'.op,.int .i64 x'.dst,.bool x'.a.1,.int .i64 x'.a.2,.bool x'.b.1,.int .i64 x'.b.2,.int .i64 x'.fn,.slice A.a A.l A.c]) E t;have XS:=fu (x',A) 0 [Value.int .i64 x'.op,.int .i64 x'.dst,.bool x'.a.1,.int .i64 x'.a.2,.bool x'.b.1,.int .i64 x'.b.2,.int .i64 x'.fn,.slice A.a A.l A.c] ae rfl (put h D (j*8) cs [Value.int .i64 x'.op,.int .i64 x'.dst,.bool x'.a.1,.int .i64 x'.a.2,.bool x'.b.1,.int .i64 x'.b.2,.int .i64 x'.fn,.slice A.a A.l A.c] o) ⟨h.clock,ae⟩;have A0:eo cC h A x.args:=R.ls _ (cN u);have U:=(cM.refl k.W E).ins (p':=(x',A)) V hn K u (g4.cY (fun c _ e=>.inl ⟨.L,.inl rfl,by rw[e];exact lL⟩)) XS (by show eo cC _ A x'.args;rw[py];exact A0.go E g4 fun c Q e=>by have:=k.W.IP K .L (.X j) c (by rw[Q];exact lL) (by rw[YB.mm u];exact e);cases this) (fun c Q=>.inl Q)
 refine C _ _ ?_ ((WZ.refl k V hn E).adU U)
 repeat (refine aM.set ?_)
 exact aM.refl _ _
def WlZ(h:az)(n0:Nat)(B:SV)(ys:List YB)(N nb aB:Nat)(l L:List Int)(i:Nat)(y:YB)(e:Env)(m:Nat)(e':Env)(h':az):Prop:=
 ∃(j:Nat) (d:List (GI×SV)),m=y.ls.length-j/\j<=y.ls.length/\d.length=j/\aM WlL e e'/\bJ e' 146 j/\WZ h h' n0 B ys (ys.set i {y with ls:=d++y.ls.drop j}) N nb aB (dh l ((y.ls.take j).flatMap fun q=>DH q.1))/\d.map (·.1)=((y.ls.map (·.1)).take j).map (vb L)
def YI(ok:cr h)(k:NZ h n0 B ys N nb aB l)(xi:wI B ys)(hn:n0<=h.aw){L:List Int}(hy:ys[i]?=some y)(hL:dh l (y.ls.flatMap fun q=>DH q.1) <+: L)(hr:tC aB (y.ls.flatMap fun q=>DH q.1))(hl:y.ls.length<=1048576)(al:∀q∈y.ls,q.1.args.length<=1048576)(hX:fC h X xc sX)(oX:¬cx B ys X)(nX:¬z7 N nb X)(Yg:(xc.drop 1).take 1=[y.L.v])(f3:cm e 3 N)(f14:cm e 14 X)(f144:bH e 144=y.L.v)(f145:bJ e 145 y.ls.length)(f146:bJ e 146 0)(C:∀e' h' qs,aM WlL e e'->WZ h h' n0 B ys (ys.set i {y with ls:=qs}) N nb aB (dh l (y.ls.flatMap fun q=>DH q.1))->qs.map (·.1)=(y.ls.map (·.1)).map (vb L)->QQ (.exit 16) e' h'):aO FF (.loop pY) e h QQ:=by
 have gh:=(di.mp hy).1;have self:ys.set i {y with ls:=[]++y.ls.drop 0} =ys:=Lj hy;refine aO.loop (WlZ h n0 B ys N nb aB l L i y e) ?_ (n:=y.ls.length) ⟨0,[],rfl,ab,rfl,aM.refl _ _,f146,by rw[self];exact .refl k xi hn ok,ae⟩;rintro m e' h'⟨j,d,rfl,hj,hd,K,ake,w,Md⟩;have g:=w.g;have bS:=g.ok;have q3:=K.at f3;have xy:=K.at f14;have akd:=K.at f144;have apM:=K.at f145;have dj:=g.get ok hX (fun e=>e.elim oX nX);have lX0:=ok.wf _ _ hX;unfold pY;by_cases bk:j<y.ls.length
 .have wj:=cg ((j:Int)+1) ab ab;obtain⟨q,DQ⟩:=aV y.ls j bk;obtain⟨x,A⟩:=q;have hq:=j6 (qs:=y.ls) hd;rw[DQ] at hq;obtain⟨D,BG⟩:∃D:YB,D= {y with ls:=d++y.ls.drop j} :=⟨_,rfl⟩;rw[<-BG] at w;have yT:(ys.set i D)[i]?=some D:=by rw[fL,bM rfl,bM gh]
  have ue:D.ls[j]?=some (x,A):=by rw[BG];exact hq
  have R:=w.k.W.at yT;have RL:eo gu h' y.L D.ls:=by have:=R.L;rw[BG] at this⊢;exact this
  have hdl:D.ls.length=y.ls.length:=by rw[BG];simp;omega
  obtain⟨bL,cs,o,s,ha,hb,_,dQ,cZ,_⟩:=RL.el ue;have rd:=cZ 0 8 ag;simp[-ax] at rd;have jt:=RL.len;have AV:eo cC h' A x.args:=R.ls _ (cN ue);have ni:=AV.len;have hI:=hr.at (cN DQ);have u:=zP (f:=fun q:GI×SV=>DH q.1) DQ hL;obtain⟨l1,el1⟩:∃l1,l1=dh l ((y.ls.take j).flatMap fun q=>DH q.1):=⟨_,rfl⟩;rw[<-el1] at w u;have J:=jy (f:=fun q:GI×SV=>DH q.1) DQ l;rw[<-el1] at J;dsimp only at u J;unfold DH at u J;rw[eF,eF,eF] at u J;have p3:=List.IsPrefix.trans (n9 _ _) u;have p2:=List.IsPrefix.trans (n9 _ _) p3;have p1:=List.IsPrefix.trans (n9 _ _) p2;have G8:bq (dh l1 (oz x.a)) x.a=bq L x.a:=um p1 (fun r hr=>uj _ _ hr);have ia:bq (dh (dh l1 (oz x.a)) (oz x.b)) x.b=bq L x.b:=um p2 (fun r hr=>uj _ _ hr);simp at akd;rw[ha,jt,hdl] at akd;simp[akd,apM,ake,bk,rd,-ax,aH];refine aO.cut (fun h2=>ay aZ h' h2/\dg h2 h'.aw [.int .i64 x.op,.int .i64 x.dst,.bool x.a.1,.int .i64 x.a.2,.bool x.b.1,.int .i64 x.b.2,.int .i64 x.fn,.slice A.a A.l A.c]) ?_ ?_
  exact⟨(ay.refl bS).var _ _,h'.clock,by simp[bg]⟩;rintro h2⟨g2,s2,Ua⟩;have U:=w.ck g2;have eC:=g2.get bS dj;obtain⟨lN,lnb⟩:=w.k.lt bS;have lX:=bS.wf _ _ dj;have l2:=g2.ok.wf _ _ Ua;have ln:=g.aw;have nY:¬z7 N nb h'.aw:=fun e=>by rcases e with e|e<;>omega
  have oY:¬cx B (ys.set i D) h'.aw:=fun e=>av (w.k.W.mo bS e)
  have noX:¬cx B (ys.set i D) X:=w.no lX0 oX;refine ad0 g2.ok U.k U.x (by have:=U.g.aw;have:=U.n0;omega) (h0:=0) hI.fst hI.snd.fst Ua oY nY (au q3) ae ?_;intro e3 h3 s3 K3 g3 k3 SO;rw[G8,ia] at SO;have eD:=g3.get g2.ok eC (fun e=>by rcases e with e|e;exact nX e;omega);have a3:=K3.at (t:=3) (ak q3);have a14:=K3.at (t:=14) (ak xy);have a19:bH e3 19=.int .i64 j:=K3.at ae;have a20:cm e3 20 h'.aw:=K3.at ae;have a146:=K3.at (t:=146) (ak ake);have KK3:aM WlL e e3:=by
   refine aM.trans ?_ (K3.cY)
   exact aq
  have l3:=g3.aw;have W3:WZ h h3 n0 B ys (ys.set i D) N nb aB (dh (dh l1 (oz x.a)) (oz x.b)):=⟨k3,U.x,hn,w.s,U.g.trans' g3 ai fun c hc e=>by rcases e with e|e;exact .inr e;omega⟩
  simp[a20,SO];refine ajP g3.ok k3 U.x (av U.g.aw) (L:=L) yT ue p3 hI.snd.snd.fst (al _ (cN DQ)) SO oY nY rfl (au a3) (by simp[a20]) ae (au ni) ae ?_;intro e4 h4 K4 G;have XW:=G.g.get g3.ok SO (fun e=>e.elim oY nY);have kR:=G.g.get g3.ok eD (fun e=>e.elim noX nX);have b3:=K4.at (t:=3) (ak a3);have b14:=K4.at (t:=14) (ak a14);have b19:=K4.at (t:=19) (ak a19);have E:=K4.at (t:=20) (ak a20);have amu:=K4.at (t:=146) (ak a146);have KK4:aM WlL e e4:=by
   refine aM.trans ?_ (K4.cY)
   exact aq
  have Q:=W3.trans G;rw[xF] at Q;have l4:=G.g.aw;obtain⟨H,I⟩:∃H:YB,H=CQ D j {x with args:=x.args.map (bq L)} A:=⟨_,rfl⟩;rw[<-I] at Q G;have hy2:(ys.set i H)[i]?=some H:=by rw[fL,bM rfl,bM gh]
  have hq2:H.ls[j]?=some ({x with args:=x.args.map (bq L)},A):=by rw[I];simp[CQ,(di.mp ue).1]
  have oY2:¬cx B (ys.set i H) h'.aw:=fun e=>by have:=G.s h'.aw (by rw[xF];exact e);rcases this with h|h;exact oY h;omega
  have hL2:H.L=y.L:=by rw[I,BG];rfl
  have aoW:(xc.drop 1).take 1=[H.L.v]:=by rw[hL2];exact Yg
  have e2:∀x':GI,CQ H j x' A= {y with ls:=(d++[(x',A)])++y.ls.drop (j+1)} :=fun x'=>by rw[I,BG];unfold CQ;dsimp only;rw[xF,set_drop hd DQ]
  have fin:∀(e6:Env)(h6:az),aM WlL e e6->WZ h h6 n0 B ys (ys.set i (CQ H j (vb L x) A)) N nb aB (dh l ((y.ls.take (j+1)).flatMap fun q=>DH q.1))->∃m,m<y.ls.length-j/\WlZ h n0 B ys N nb aB l L i y e m (Tr.set (Tr.set e6 190 (.int .i64 ((j:Int)+1))) 146 (.int .i64 ((j:Int)+1))) h6:=by intro e6 h6 K6 W6;rw[e2] at W6;exact⟨y.ls.length-(j+1),ab,j+1,d++[(vb L x,A)],rfl,bk,au hd,aM.set (aM.set K6),ae,W6,Mu DQ Md⟩
  by_cases W:0<=x.dst
  .rw[bM W,acL] at u J;have hI4:=hI.snd.snd.snd;rw[bM W] at hI4;simp[b3,E,XW,W];refine bm.call (V:=NnQ N nb aB _ x.dst h4) (aj (xr G.g.ok G.k.w (hI4 x.dst ae) k.MN)) ?_;rintro _ h5⟨g5,w5,rfl⟩;have V5:=Q.nm g5 w5;have hY5:=g5.get G.g.ok XW nY;have oJ:=g5.get G.g.ok kR nX;have hu:aR (dN (dh (dh (dh l1 (oz x.a)) (oz x.b)) (u0 x.args)) x.dst) x.dst=aR L x.dst:=(yq u (Fp _ _)).symm;rw[hu];simp[E,hY5];have g6:=(ay.refl g5.ok).put (S:=(· =h'.aw)) (off:=1) (vs:=[Value.int .i64 (aR L x.dst)]) ⟨_,hY5⟩ (.inr rfl);have Z:∃s,(put h5 h'.aw 1 [.int .i64 x.op,.int .i64 x.dst,.bool (bq L x.a).1,.int .i64 (bq L x.a).2,.bool (bq L x.b).1,.int .i64 (bq L x.b).2,.int .i64 x.fn,.slice A.a A.l A.c] [Value.int .i64 (aR L x.dst)] 0).tr.get h'.aw=some (.bZ (gu.enc (vb L x,A)) false 0 s):=⟨h5.clock,by rw[aP];unfold vb;simp[W]⟩;have po:=g6.get g5.ok oJ ab;have V6:=V5.box g6 ab oY2 nY;generalize put h5 h'.aw 1 _ _ 0=h6 at*;obtain⟨s6,Z⟩:=Z;refine SB V6.g.ok V6.k V6.x (av V6.g.aw) hy2 hq2 (x':=vb L x) rfl po aoW Z (au b14) (au b19) (au E) ?_;intro e7 h7 K7 W7;have V7:=V6.trans W7;rw[xF] at V7;have aa0:=K7.at (t:=146) (ak amu);simp[aa0,wj];refine fin e7 h7 ?_ (by unfold DH;rw[J];exact V7);refine aM.trans ?_ (K7.cY)
   exact aq
  .rw[bU W] at u J;simp[E,XW,W];have er:vb L x=⟨x.op,x.dst,bq L x.a,bq L x.b,x.fn,x.args.map (bq L)⟩:=by unfold vb;rw[bU W]
   refine SB Q.g.ok Q.k Q.x (av Q.g.aw) hy2 hq2 (x':=vb L x) rfl kR aoW (by rw[er];exact XW) (au b14) (au b19) (au E) ?_;intro e7 h7 K7 W7;have V7:=Q.trans W7;rw[xF] at V7;have aa0:=K7.at (t:=146) (ak amu);simp[aa0,wj];refine fin e7 h7 ?_ (by unfold DH;rw[J];exact V7);refine aM.trans ?_ (K7.cY)
   exact aq
 .have:j=y.ls.length:=ab
  subst this;rw[List.drop_length,Bc,jT] at w;simp[apM,ake];exact C _ _ d (aM.set K) w (by rw[Md,pg ae])
end
def LO(b:GB):List Int:=b.bD.flatMap yO++(b.list.flatMap DH++oz b.on)
def Ee(L:List Int)(b:GB):GB:=⟨b.bD.map (CL L),b.list.map (vb L),b.kind,bq L b.on,b.to⟩
def abi(y:YB):LO y.g=(y.ps.flatMap fun q=>yO q.1)++((y.ls.flatMap fun q=>DH q.1)++oz y.on):=by unfold LO YB.g;rw[List.flatMap_map,List.flatMap_map]
section
variable{h:az}{n0:Nat}{B:SV}{ys:List YB}{N nb aB:Nat}{l:List Int}
def FZ.on{h':az}{C:Nat}(w:FZ h n0 B ys)(H:cr h)(U:n0<=h.aw){i:Nat}{y:YB}(G:ys[i]?=some y)(I:B.a=some ⟨C,0,none⟩)(g:ay (· =C) h h'){u:Bool×Int}(Q:eo dZ h' B (ys.set i {y with on:=u})):cM h h' n0 B ys B (ys.set i {y with on:=u}):=by
 have Y:=w.at G;have own:∀c,c=C->∀o,eV B ys o=some c->o=none:=fun c t o D=>(w.tf none o c (by rw[t];exact cy I) D).symm;have no:∀c l,c=C->y.loc l≠some c:=fun c l t e=>by have:=own c t (some (i,l)) (by rw[cz G];exact e);cases this
 have Z:=Y.go H g no;have E:∀l,({y with on:=u} :YB).loc l=y.loc l:=fun l=>by cases l<;>rfl
 obtain⟨a,b,c⟩:=w.tz H g U G (fun c t o D=>.inl (own c t o D)) Q ⟨Z.P,Z.L,Z.T,Z.ps,Z.ls⟩ (fun p inj a b c h1 K=>inj a b c (by rw[<-E a];exact h1) (by rw[<-E b];exact K)) (fun l c J=>.inl ⟨l,by rw[<-E l];exact J,id⟩);exact⟨a,b,g.cY fun x _ e=>⟨none,by rw[e];exact cy I⟩,c⟩
def adZ(o:cr h)(k:NZ h n0 B ys N nb aB l)(xi:wI B ys)(hn:n0<=h.aw)(D:ys[j]?=some y)(hr:tC aB (oz y.on))(U:fC h F (aC name p rg B) sF)(oF:¬cx B ys F)(nF:¬z7 N nb F){P L T:Value}{kind:Int}(J:fC h X [P,L,.int .i64 kind,.bool y.on.1,.int .i64 y.on.2,T] sX)(f1:cm e 1 F)(f3:cm e 3 N)(f13:bJ e 13 j)(K:cm e 14 X)(C:∀e' h',aM WbD e e'->WZ h h' n0 B ys (ys.set j {y with on:=bq (dh l (oz y.on)) y.on}) N nb aB (dh l (oz y.on))->QQ .normal e' h'):aO FF VB e h QQ:=by
 have bk:=(di.mp D).1;obtain⟨bB,cs,oB,sB,I,Gg,_,dQ,cZ,_⟩:=k.W.A.el D;have dT:=k.W.A.len;have t:=U;simp[aC] at t;rw[I,dT] at t;have W:=o.cn U;have oX:=o.cn J;have Ho:=o.st _ _ _ _ _ U;unfold VB;simp[f1,f3,f13,K,t,J,aF t,aF J,W,oX];have gi:=(bC o).ok;have Z:ay aZ h (tick h):=bC o;generalize tick h=h1 at gi Z⊢;have w1:=(WZ.refl k xi hn o).ck Z;have yD:=Z.get o t;refine cu.call (V:=NwQ N nb aB _ y.on h1) (aj (tj gi w1.k.w hr k.MN)) ?_;rintro _ h2⟨w,w2,rfl⟩;have E:=w1.nm w w2;have uT:=w.get gi yD nF;obtain⟨PK,G,H,sB2,wZ,TQ,_,Q,_,aoF⟩:=E.k.W.A.el D;rw[I] at wZ;cases wZ;have hf:=Q 3 2 ag;simp at hf;obtain⟨u,eu⟩:∃u,u=bq (dh l (oz y.on)) y.on:=⟨_,rfl⟩;rw[<-eu] at C⊢;simp[f1,uT,Ho,bk,TQ,hf];have g3:=aY (off:=j*6+3) (vs:=[Value.bool u.1,Value.int .i64 u.2]) w.ok TQ;have A3:=aoF {y with on:=u} 3 [Value.bool u.1,Value.int .i64 u.2] ae rfl (put h2 bB (j*6+3) G [Value.bool u.1,Value.int .i64 u.2] H) ⟨h2.clock,ae⟩;refine C _ _ ?_ (E.adU (E.k.W.on w.ok (av E.g.aw) D I g3 A3))
 repeat (refine aM.set ?_)
 exact aM.refl _ _
def as5(h:az)(n0:Nat)(B:SV)(ys:List YB)(N nb aB:Nat)(l L:List Int)(F:Nat)(v2:Value)(m:Nat)(e':Env)(h':az):Prop:=
 ∃(j:Nat) (d:List YB),m=ys.length-j/\j<=ys.length/\d.length=j/\cm e' 1 F/\bH e' 2=v2/\cm e' 3 N/\bH e' 102=B.v/\bJ e' 103 ys.length/\bJ e' 104 j/\WZ h h' n0 B ys (d++ys.drop j) N nb aB (dh l ((ys.take j).flatMap fun y=>LO y.g))/\d.map YB.g=((ys.map YB.g).take j).map (Ee L)
def Rl(ok:cr h)(k:NZ h n0 B ys N nb aB l)(xi:wI B ys)(hn:n0<=h.aw){L:List Int}(hL:dh l (ys.flatMap fun y=>LO y.g) <+: L)(hr:tC aB (ys.flatMap fun y=>LO y.g))(hl:ys.length<50)(sz:∀y∈ys,SzZ y)(hF:fC h F (aC name p rg B) sF)(oF:¬cx B ys F)(nF:¬z7 N nb F){v2:Value}(f1:cm e 1 F)(f2:bH e 2=v2)(f3:cm e 3 N)(f102:bH e 102=B.v)(f103:bJ e 103 ys.length)(f104:bJ e 104 0)(C:∀e' h' zs,cm e' 1 F->bH e' 2=v2->cm e' 3 N->WZ h h' n0 B ys zs N nb aB (dh l (ys.flatMap fun y=>LO y.g))->zs.map YB.g=(ys.map YB.g).map (Ee L)->QQ (.exit 10) e' h'):aO FF (.loop p_) e h QQ:=by
 refine aO.loop (as5 h n0 B ys N nb aB l L F v2) ?_ (n:=ys.length) ⟨0,[],rfl,ab,rfl,f1,f2,f3,f102,f103,f104,.refl k xi hn ok,ae⟩;rintro m e' h'⟨j,d,rfl,hj,hd,q1,q2,q3,u,V,W,w,Md⟩;have g:=w.g;have bS:=g.ok;have lF:=ok.wf _ _ hF;unfold p_;by_cases bk:j<ys.length
 .have wj:=cg ((j:Int)+1) ab ab;obtain⟨r,Z⟩:=aV ys j bk;have yE:=j6 (qs:=ys) hd;rw[Z] at yE;obtain⟨zs,Q⟩:∃zs,zs=d++ys.drop j:=⟨_,rfl⟩;rw[<-Q] at w yE;have wK:zs.length=ys.length:=by rw[Q];simp;omega
  have hm:=cN Z;have z:=sz r hm;have zp:=z.p;have zl:=z.l;have hI:=hr.at hm;rw[abi] at hI;have K:=zP (f:=fun y:YB=>LO y.g) Z hL;have tk:=jy (f:=fun y:YB=>LO y.g) Z l;rw[abi,eF,eF] at K tk;have p2:=List.IsPrefix.trans (n9 _ _) K;have p1:=List.IsPrefix.trans (n9 _ _) p2;have R:=w.k.W.at yE;obtain⟨b,cs,o,s,ha,hb,_,_,cZ,_⟩:=w.k.W.A.el yE;have rd:=cZ 0 6 ag;simp[-ax] at rd;have dT:=w.k.W.A.len;have gY:=R.P.len;have jt:=R.L.len;simp at u;rw[ha,dT,wK] at u;simp[u,V,W,bk,rd,-ax,aH,gY];refine aO.cut (fun h2=>ay aZ h' h2/\dg h2 h'.aw (EA r)) ?_ ?_
  exact⟨(ay.refl bS).var _ _,h'.clock,by simp[bg,gY,EA]⟩;rintro h2⟨g2,sX,eC⟩;have w2:=w.ck g2;obtain⟨lN,lnb⟩:=w.k.lt bS;have ln:=g.aw;have l2:=g2.ok.wf _ _ eC;have nX:¬z7 N nb h'.aw:=fun e=>by rcases e with e|e<;>omega
  have oX:¬cx B zs h'.aw:=fun e=>av (w.k.W.mo bS e)
  refine YJ g2.ok w2.k w2.x (av w2.g.aw) (L:=L) yE p1 hI.fst ab (fun q hq=>av (z.r q hq)) eC oX nX rfl (au q3) ae (au gY) ae ae ?_;intro e3 h3 J D G Mq;have a1:=D.at (t:=1) (ak q1);have a2:=D.at (t:=2) (ak q2);have a3:=D.at (t:=3) (ak q3);have a13:bH e3 13=.int .i64 j:=D.at ae;have I:cm e3 14 h'.aw:=D.at ae;have atd:=D.at (t:=102) (ak u);have ate:=D.at (t:=103) (ak V);have atf:=D.at (t:=104) (ak W);have eD:=G.g.get g2.ok eC (fun e=>e.elim oX nX);have oX3:=G.no l2 oX;have hr3:(zs.set j {r with ps:=J})[j]?=some {r with ps:=J} :=by rw[fL,bM rfl,bM ab]
  have Qz:=eD;simp[EA] at Qz;have l3:=G.g.aw;simp[I,Qz];refine YI G.g.ok G.k G.x (av w2.g.aw) (L:=L) hr3 p2 hI.snd.fst (by show r.ls.length<=_;omega) (fun q hq=>av (z.a q hq)) eD oX3 nX rfl (au a3) (au I) ae (au jt) ae ?_;intro e4 h4 H E W4 Ml;have b1:=E.at (t:=1) (ak a1);have b2:=E.at (t:=2) (ak a2);have b3:=E.at (t:=3) (ak a3);have b13:=E.at (t:=13) (ak a13);have b14:=E.at (t:=14) (ak I);have ato:=E.at (t:=102) (ak atd);have atp:=E.at (t:=103) (ak ate);have atq:=E.at (t:=104) (ak atf);rw[xF] at W4;have hr4:(zs.set j {r with ps:=J,ls:=H})[j]?=some {r with ps:=J,ls:=H} :=by rw[fL,bM rfl,bM ab]
  have V3:=w2.trans G;have U:WZ h h4 n0 B ys (zs.set j {r with ps:=J,ls:=H}) N nb aB _:=V3.trans (by have:=W4;exact this)
  have kR:=W4.g.get G.g.ok eD (fun e=>e.elim oX3 nX);have BH:=U.g.get ok hF (fun e=>e.elim oF nF);have oF4:=U.no lF oF;simp;refine adZ U.g.ok U.k U.x (av U.g.aw) hr4 hI.snd.snd BH oF4 nF kR b1 b3 b13 b14 ?_;intro e5 h5 K5 W5;have V5:=U.trans W5;rw[xF] at V5;have atu:=K5.at (t:=104) atq;have att:=K5.at (t:=102) ato;have hon:bq (dh (dh (dh (dh l ((ys.take j).flatMap fun y=>LO y.g)) (r.ps.flatMap fun q=>yO q.1)) (r.ls.flatMap fun q=>DH q.1)) (oz r.on)) r.on=bq L r.on:=um K (fun r hr=>uj _ _ hr);simp[atu,wj];refine⟨ys.length-(j+1),ab,j+1,d++[{r with ps:=J,ls:=H,on:=bq L r.on}],rfl,bk,au hd,by simp[K5.at (t:=1) b1],by simp[K5.at (t:=2) b2],by simp[K5.at (t:=3) b3],by simp[att,ha,dT,wK],by simp[K5.at (t:=103) atp],ae,?_,?_⟩
  rw[<-hon,<-set_drop hd Z,<-Q,tk];exact V5;rw[List.map_append,Md,lg,js,Z,List.map_append];simp only[xX,List.map_nil,Cx,Option.toList_some];congr 2;unfold Ee YB.g;dsimp only;rw[Mq,Ml]
 .have:j=ys.length:=ab
  subst this;rw[List.drop_length,Bc,jT] at w;simp[V,W];exact C _ _ d (au q1) (au q2) (au q3) w (by rw[Md,pg ae])
end
def EB.bp(E:EB bs):Ord bs.length (dP bs)/\(dP bs)[0]?=some 0:=by have o:=D8 E.ends E.n1;exact⟨⟨o.nd,o.lt⟩,o.zero⟩
def EB.rch(E:EB bs)(k:Nat):k∈dP bs↔Edge.Rch (cw bs) k:=by
 have o:(cw bs).length=bs.length:=by simp[cw]
 have h:=Edge.adg (tss:=cw bs) (by rw[o];exact E.n1) (fun u C t w=>av (E.tok.to u C t w)) k;unfold dP;rw[List.mem_reverse,<-h,o];have:gE bs=Edge.Ld (cw bs):=by simp[gE,cw,Edge.Ld]
 rw[this]
structure kV(aB:Nat)(bs:List GB):Prop where
 r:∀b∈bs,tC aB (LO b)
 p:∀b∈bs,b.bD.length<=100000
 l:∀b∈bs,b.list.length<=100000
 a:∀b∈bs,∀x∈b.list,x.args.length<=100000
def Zx{l:List (Int×(Bool×Int))}(h:v∈iC l n):∃x∈l,x.2=v:=by
 unfold iC at h;obtain⟨b,_,e⟩:=List.mem_filterMap.1 h;unfold eS at e;cases hf:l.find? fun x=>x.1==(b:Int) with
 |none=>rw[hf] at e;cases e
 |some x=>rw[hf] at e;cases e;exact⟨x,List.mem_of_find?_eq_some hf,rfl⟩
def Yu{p:GP}(h:v∈(mi f N pk p).row):v∈p.row:=by obtain⟨x,o,rfl⟩:=Zx h;unfold fB at o;obtain⟨y,t,e⟩:=List.mem_filterMap.1 o;split at e;cases e;exact(List.of_mem_zip (a:=y.1) (b:=y.2) t).2;cases e
def kV.kept{aB:Nat}(R:kV aB bs){bp:List Nat}(o:Ord bs.length bp):kV aB (bh bs bp):=by
 have C:∀b∈bh bs bp,∃X∈bs,∃f N pk,b=dY f N pk X:=fun b t=>by unfold bh at t;obtain⟨k,E,rfl⟩:=jo.1 t;obtain⟨X,u⟩:=aV bs k (o.lt k E);exact⟨X,cN u,_,_,_,by rw[u];rfl⟩
 refine⟨fun b t=>?_,fun b t=>?_,fun b t=>?_,fun b t=>?_⟩<;>obtain⟨X,u,f,N,pk,rfl⟩:=C b t;intro r w;refine R.r X u r ?_;unfold LO dY at w;rcases jS.1 w with h|h;refine List.mem_append_left _ ?_;obtain⟨J,I,w⟩:=List.mem_flatMap.1 h;obtain⟨p,D,rfl⟩:=jo.1 I;refine List.mem_flatMap.2 ⟨p,D,?_⟩;unfold yO at w⊢;rcases jS.1 w with h|h;exact List.mem_append_left _ h;refine List.mem_append_right _ ?_;obtain⟨v,G,H⟩:=List.mem_flatMap.1 h;exact List.mem_flatMap.2 ⟨v,Yu G,H⟩;exact List.mem_append_right _ h;simpa [dY] using R.p X u;exact R.l X u;exact R.a X u
def abh{aB:Nat}(h:tC aB (LO b)):tC aB (Qr b):=fun r o=>by unfold Qr at o;rcases jS.1 o with h1|h1;obtain⟨p,t,rfl⟩:=jo.1 h1;exact h _ (List.mem_append_left _ (List.mem_flatMap.2 ⟨p,t,by simp[yO]⟩));exact h _ (List.mem_append_right _ h1)
def UB{bp:List Nat}(h:b∈bh bs bp){p:GP}(o:p∈b.bD):p.row.length<=bp.length:=by unfold bh at h;obtain⟨k,_,rfl⟩:=jo.1 h;obtain⟨q,_,rfl⟩:=jo.1 o;exact Fz _ _
def zM(p:Nat)(bs:List GB):List Int:=dh (dh (kT p) (bs.flatMap Qr)) (bs.flatMap LO)
def wy(p:Nat)(bs:List GB):Nat×List GB:=((zM p (bh bs (dP bs))).length,(bh bs (dP bs)).map (Ee (zM p (bh bs (dP bs)))))
def vU(name:ByteArray)(p:Int)(n0:Nat)(B:SV)(ys:List YB)(r:Nat×List GB)(h:az)(v:Value)(h':az):Prop:=
 ∃(B':SV) (Kd:List YB),v=.agg ⟨aC name p r.1 B'⟩/\cM h h' n0 B ys B' Kd/\Kd.map YB.g=r.2
def Ri(ok:cr h){name:ByteArray}{p n0 aB:Nat}(uU:n0<=h.aw)(W:FZ h n0 B ys)(xi:wI B ys)(E:EB (ys.map YB.g))(R:kV aB (ys.map YB.g))(hp:p<=aB)(DR:aB<1000000):bc FF 135 [.agg ⟨aC name p aB B⟩] h (vU name p n0 B ys (wy p (ys.map YB.g)) h):=by
 obtain⟨K,eK⟩:∃K,K=bh (ys.map YB.g) (dP (ys.map YB.g)):=⟨_,rfl⟩;obtain⟨o,o0⟩:=E.bp;have LY:=E.n50;have CB:=o.len;have RK:=R.kept o;have aso:∀b∈K,∀p∈b.bD,p.row.length<=100000:=fun b G p hp=>av (UB (by rw[<-eK];exact G) hp)
 have hKl:K.length=(dP (ys.map YB.g)).length:=by rw[eK];simp[bh]
 rw[<-eK] at RK;have mN:∀c,h.aw<=c->¬cx B ys c:=fun c hc h1=>av (W.mo ok h1)
 unfold wy;rw[<-eK];refine bc.of H4 ?_;unfold zh;have n2:¬h.aw=h.aw+1:=ab
 have n3:¬h.aw+1=h.aw:=ab
 simp[aC,n2,n3];refine cu.cut (fun h1=>ay aZ h h1/\h1.tr.get h.aw=some (.bZ (aC name p aB B) false 0 0)/\(dg h1 (h.aw+1) [.string ⟨⟨[]⟩⟩,.int .i64 0,.int .i64 0,.slice none 0 0])) ?_ ?_;exact⟨(((ay.refl ok).new _ _).new _ _).tick,by simp[aC,n2],⟨0,ae⟩⟩;rintro h1⟨g1,yD,⟨sR,Bg⟩⟩;have lF:=g1.ok.wf _ _ yD;have lR:=g1.ok.wf _ _ Bg;refine cu.call (V:=fun v h'=>ay aZ h1 h'/\∃L:SV,v=L.v/\bu encI h1.aw h' L.v (uy (ys.map YB.g)).reverse) (by simpa [aC] using CJ g1.ok (name:=name) (p:=p) (r:=aB) (W.ck ok g1).view E.ends E.n1) ?_;rintro _ h2⟨g2,L,rfl,hL⟩;rw[OB] at hL;have jC:=g1.trans g2;have jz:=g2.get g1.ok yD;have w_:=g2.get g1.ok Bg;have W2:=W.ck ok jC;have l2:=g2.aw;simp[jz];refine cu.call (V:=aaG name p aB n0 B ys K h2) (by rw[eK];simpa [aC] using IT g2.ok (name:=name) (p:=p) (r:=aB) W2 ab E (aj o) hL.sl (fun _ b G h=>by have:=hL.of G;have:=W.mo ok h;omega)) ?_;rintro _ u⟨B',zs,rfl,t,Mz⟩;have uT:=t.g.get g2.ok jz (mN _ ab);have Ew:=t.g.get g2.ok w_ (mN _ ab);simp[aC] at uT;have l3:=t.g.aw;have n4:¬h.aw=u.aw:=ab
 have lF3:=t.g.ok.wf _ _ uT;have oF3:=t.g.ok.cn uT;have C:∀c,h.aw<=c->c<h2.aw->¬cx B' zs c:=fun c h1 h2 u=>(t.s c u).elim (mN c h1) ab;simp[aC,uT,n4];refine bm.cut (fun h4=>ay (· =h.aw) u h4/\(dg h4 h.aw (aC name p aB B'))/\dg h4 u.aw [.int .i64 (-1)]) ?_ ?_
 have g4:=(ay.refl t.g.ok).put (S:=(· =h.aw)) (off:=0) (vs:=[Value.string name,Value.int .i64 p,Value.int .i64 aB,Value.slice B'.a B'.l B'.c]) ⟨_,uT⟩ (.inr rfl);exact⟨g4.new _ _,⟨u.clock,by simp[aC,n4]⟩,⟨0,ae⟩⟩;rintro h4⟨g4,⟨sF4,BH⟩,⟨sM,hM4⟩⟩;refine bm.call (V:=fun v h'=>ay aZ h4 h'/\∃d s,v=.slice (some ⟨d,0,none⟩) aB aB/\h4.aw<=d/\h'.tr.get d=some (.bZ (encI.flat (List.replicate aB (-1:Int))) false 0 s)) (aj (JG g4.ok aB DR (x:= -1) hM4)) ?_;rintro _ Q⟨U,d,sd,rfl,hdn,ID⟩;have TV:=U.get g4.ok BH;have anl:=TV;simp[aC] at anl;have l4:=g4.aw;have l5:=U.aw;have ld:=U.ok.wf _ _ ID;have nF5:¬h.aw=Q.aw:=ab
 simp[anl,nF5];refine aO.cut (fun h6=>ay aZ Q h6/\dg h6 Q.aw [.slice (some ⟨d,0,none⟩) aB aB,.int .i64 0]) ?_ ?_;exact⟨(ay.refl U.ok).new _ _,0,ae⟩;rintro h6⟨D,sN,hN6⟩;have hd6:=D.get U.ok ID;have hF6:=D.get U.ok TV;have l6:=D.aw;have lN6:=D.ok.wf _ _ hN6;have G36:ay (· =h.aw) u h6:=g4.trans (U.trans D).ck;have T6:cM h h6 n0 B ys B' zs:=(((cM.refl W ok).ck jC).trans t).go G36 (fun c e=>⟨ab,by rw[e];exact C _ ab ab⟩);have Ex:=G36.get t.g.ok Ew ab;have x6:=T6.x xi;have nhi:∀c,u.aw<=c->¬cx B' zs c:=fun c hc h=>av (t.w.mo t.g.ok h)
 have aw4:List.replicate aB (-1:Int)=(List.range aB).map fun r:Nat=>aR [] r:=by refine Cy fun m=>?_;rw[SI,js];rcases Gf m aB with h|h;rw[bM h,List.getElem?_range h];rfl;rw[bU ab,wY (aj h)];rfl
 rw[aw4] at hd6;have k6:NZ h6 n0 B' zs Q.aw d aB []:=⟨T6.w,⟨⟨sN,hN6⟩,⟨sd,hd6⟩,ab,List.Pairwise.nil,fun x hx=>by simp at hx⟩,nhi _ ab,nhi _ ab,DR⟩;have nF:¬z7 Q.aw d h.aw:=fun e=>by rcases e with e|e<;>omega
 have nR:¬z7 Q.aw d (h.aw+1):=fun e=>by rcases e with e|e<;>omega
 have I:∀c,z7 Q.aw d c->h.aw<=c/\¬cx B' zs c:=fun c e=>by
  have:u.aw<=c:=by rcases e with e|e<;>omega
  exact⟨ab,nhi c this⟩
 have fl:∀f:GB->List Int,(zs.flatMap fun y=>f y.g)=K.flatMap f:=fun f=>by rw[<-Mz,List.flatMap_map]
 have inz:∀y∈zs,y.g∈K:=fun y hy=>by rw[<-Mz];exact EX hy
 have I2:tC aB (K.flatMap LO):=fun r hr=>by obtain⟨b,G,h⟩:=List.mem_flatMap.1 hr;exact RK.r b G r h
 have I1:tC aB (K.flatMap Qr):=fun r hr=>by obtain⟨b,G,h⟩:=List.mem_flatMap.1 hr;exact abh (RK.r b G) r h
 have sz:∀y∈zs,SzZ y:=fun y hy=>by have hm:=inz y hy;refine⟨by simpa [YB.g] using RK.p _ hm,by simpa [YB.g] using RK.l _ hm,fun q hq=>?_,fun q hq=>?_⟩;exact aso _ hm q.1 (by show q.1∈y.ps.map (·.1);exact EX hq);exact RK.a _ hm q.1 (by show q.1∈y.ls.map (·.1);exact EX hq)
 have wK:zs.length=K.length:=by rw[<-Mz];simp
 have ao3:zs.length<50:=ab
 have dT:=t.w.A.len;refine US (v1:=.pointer (some ⟨h.aw,0,none⟩)) (v2:=.pointer (some ⟨h.aw+1,0,none⟩)) D.ok k6 (p:=p) hp ae ae ae ae ae ?_;intro e7 h7 q1 q2 q3 H k7;have hF7:=H.get D.ok hF6 nF;have anm:=hF7;simp[aC] at anm;simp[q1,anm];refine UR (v1:=.pointer (some ⟨h.aw,0,none⟩)) (v2:=.pointer (some ⟨h.aw+1,0,none⟩)) H.ok k7 ao3 sz (by rw[fl];exact I1) (au q1) (au q2) (au q3) ae (au dT) ae ?_;intro e8 h8 r1 r2 r3 g8 k8;rw[fl] at k8;have J:=g8.get H.ok hF7 nF;have ano:=J;simp[aC] at ano;simp[r1,ano];have l7:=H.aw;have l8:=g8.aw;have T8:cM h h8 n0 B ys B' zs:=(T6.go H I).go g8 I;have oF:¬cx B' zs h.aw:=C _ ab ab;refine Rl (L:=zM p K) (v2:=.pointer (some ⟨h.aw+1,0,none⟩)) g8.ok k8 x6 ab (by rw[fl];exact List.prefix_refl _) (by rw[fl];exact I2) ao3 sz J oF nF (au r1) (au r2) (au r3) ae (au dT) ae ?_;intro e9 h9 ws s1 s2 s3 w Mw;rw[fl] at w;have T9:cM h h9 n0 B ys B' ws:=T8.step w.g (fun c hc=>hc.imp id fun e=>(I c e).1) ⟨w.k.W,w.s,fun _=>w.x⟩;have hF9:=w.g.get g8.ok J (fun e=>e.elim oF nF);have oR:¬cx B' zs (h.aw+1):=C _ ab ab;have hR9:=w.g.get g8.ok (g8.get H.ok (H.get D.ok Ex nR) nR) (fun e=>e.elim oR nR);obtain⟨t1,hN9⟩:=w.k.w.hN;have Z:=hF9;simp[aC] at Z;have eL:dh (dh (kT p) (K.flatMap Qr)) (K.flatMap LO)=zM p K:=rfl;rw[eL] at hN9;simp[s1,s2,s3,Z,hN9,hR9,n2,n3];have gw:=((ay.refl w.g.ok).put (S:=fun x=>x=h.aw\/x=h.aw+1) (off:=2) (vs:=[Value.int .i64 (zM p K).length]) ⟨_,Z⟩ (.inr (.inl rfl))).put (b:=h.aw+1) (off:=0) (cs:=[Value.string ⟨⟨[]⟩⟩,Value.int .i64 0,Value.int .i64 0,Value.slice none 0 0]) (o:=0) (vs:=[Value.string name,Value.int .i64 p,Value.int .i64 (zM p K).length,Value.slice B'.a B'.l B'.c]) ⟨sR,by simp[hR9,n3]⟩ (.inr (.inr rfl));generalize put (put h9 _ _ _ _ _) _ _ _ _ _=LX at gw⊢;have o9:∀c,h.aw<=c->c<h2.aw->¬cx B' ws c:=fun c h1 h2 u=>(w.s c u).elim (C c h1 h2) ab;refine⟨B',ws,by simp[aC],T9.go gw (fun c e=>⟨ab,by rcases e with e|e<;>(rw[e];exact o9 _ ab ab)⟩),by rw[Mw,Mz]⟩
def Bl(l:List Int)(ps:List GP):List Int:=ps.foldl (fun l p=>fV l p.row) l
def YE{p:GP}(h:ps[j]?=some p):Bl l (ps.take (j+1))=fV (Bl l (ps.take j)) p.row:=by unfold Bl;rw[lg,h,List.foldl_append];rfl
def yF(l:List Int)(bs:List GB):List Int:=bs.foldl (fun l b=>Bl l b.bD) l
def UN(h:bs[j]?=some b):yF l (bs.take (j+1))=Bl (yF l (bs.take j)) b.bD:=by unfold yF;rw[lg,h,List.foldl_append];rfl
section
variable{h0 h1:az}{n0 S i:Nat}{name:ByteArray}{p r:Int}{B:SV}{ys:List YB}{y:YB}
def asp(h1:az)(S i:Nat)(l0:List Int)(y:YB)(m:Nat)(e':Env)(h':az):Prop:=
 ∃(j:Nat) (L:SV),m=y.ps.length-j/\j<=y.ps.length/\cm e' 1 S/\bJ e' 9 i/\bH e' 3=L.v/\bJ e' 10 j/\ay aZ h1 h'/\bu encI h1.aw h' L.v (Bl l0 (y.g.bD.take j))
def YF(Z:cr h1)(gs:ay aZ h1 hs)(W:FZ h1 n0 B ys)(H:ys[i]?=some y)(K:bu encI h1.aw hs L0.v l0)(dJ:∀j,(Bl l0 (y.g.bD.take j)).length<50000)(hr:∀q∈y.ps,q.1.row.length<50000)(hp:y.ps.length<100000)(hS:fC h1 S (aC name p r B) sS)(yU:ys.length<100000)(f1:cm e 1 S)(f3:bH e 3=L0.v)(f9:bJ e 9 i)(I:bJ e 10 0)(C:∀w h' (L:SV),cm w 1 S->bH w 3=L.v->bJ w 9 i->ay aZ h1 h'->bu encI h1.aw h' L.v (Bl l0 y.g.bD)->QQ (.exit 10) w h'):aO FF (.loop lx) e hs QQ:=by
 have dT:=W.A.len;have hi:=(di.mp H).1;refine aO.loop (asp h1 S i l0 y) ?_ (n:=y.ps.length) ⟨0,L0,rfl,ab,f1,f9,f3,I,gs,by simpa [Bl] using K⟩;rintro m w h'⟨j,L,rfl,hj,G,D,Q,U,g,t⟩;have bS:=g.ok;have W':=W.ck Z g;have Y:=W'.at H;have o:=g.get Z hS;obtain⟨bB,cs,oB,sB,fp,Gg,hjB,_,cZ,_⟩:=W'.A.el H;have E:=cZ 0 1 ag;simp[-ax] at E;have J:=Y.P.len;simp[aC] at o;rw[fp,dT] at o;unfold lx;by_cases bk:j<y.ps.length
 .have wj:=cg ((j:Int)+1) ab ab;obtain⟨q,u⟩:=aV y.ps j bk;have hg:y.g.bD[j]?=some q.1:=by simp[YB.g,u]
  have tk:=YE (l:=l0) hg;have Rq:=Y.ps q (cN u);obtain⟨bP,cP,oP,sP,kB,DN,hjP,_,Ul,_⟩:=Y.P.el u;have rP:=Ul 1 1 ag;simp[-ax] at rP;rw[kB,J] at E;have Ki:=dJ j;have yb:=hr q (cN u);have gn:=g.aw;simp[G,Q,D,U,o,aF o,hi,E,bk,rP,J,-ax];refine bm.call (V:=MtQ h1.aw L (fV (Bl l0 (y.g.bD.take j)) q.1.row) h') (by simpa [Q] using yf (V:=q.2) bS ab t Rq.sl (fun c hc e=>by have:=t.of e;have:=(W.at H).lt Z (l:=.R j) (c:=c) (by rw[YB.jN u];exact dq hc);omega) ab) ?_;rintro _ h2⟨g2,L2,rfl,gK,hL2⟩;simp[U,wj];exact⟨y.ps.length-(j+1),ab,j+1,L2,rfl,bk,au G,au D,ae,ae,g.trans' g2 ai (fun c hc e=>av (t.of e)),by rw[tk];exact gK⟩
 .have:j=y.ps.length:=ab
  subst this;rw[pg (by simp[YB.g])] at t;simp[G,D,U,o,aF o,hi,E,J,-ax];exact C _ _ L (au G) (au Q) (au D) g t
def asq(h1:az)(S:Nat)(l0:List Int)(ys:List YB)(m:Nat)(e':Env)(h':az):Prop:=
 ∃(j:Nat) (L:SV),m=ys.length-j/\j<=ys.length/\cm e' 1 S/\bH e' 3=L.v/\bJ e' 9 j/\ay aZ h1 h'/\bu encI h1.aw h' L.v (yF l0 ((ys.map YB.g).take j))
def Rc(U:cr h1)(gs:ay aZ h1 hs)(W:FZ h1 n0 B ys)(E:bu encI h1.aw hs L0.v l0)(dJ:∀i b j,(ys.map YB.g)[i]?=some b->(Bl (yF l0 ((ys.map YB.g).take i)) (b.bD.take j)).length<50000)(hr:∀y∈ys,∀q∈y.ps,q.1.row.length<50000)(hp:∀y∈ys,y.ps.length<100000)(K:fC h1 S (aC name p r B) sS)(yU:ys.length<100000)(f1:cm e 1 S)(f3:bH e 3=L0.v)(f9:bJ e 9 0)(C:∀D h' (L:SV),bH D 3=L.v->ay aZ h1 h'->bu encI h1.aw h' L.v (yF l0 (ys.map YB.g))->QQ (.exit 8) D h'):aO FF (.loop lz) e hs QQ:=by
 have dT:=W.A.len;refine aO.loop (asq h1 S l0 ys) ?_ (n:=ys.length) ⟨0,L0,rfl,ab,f1,f3,f9,gs,by simpa [yF] using E⟩;rintro m D h'⟨j,L,rfl,hj,w,J,t,g,u⟩;have o:=g.get U K;simp[aC] at o;rw[dT] at o;unfold lz;by_cases H:j<ys.length
 .have Z:=cg ((j:Int)+1) ab ab;obtain⟨y,G⟩:=aV ys j H;have I:(ys.map YB.g)[j]?=some y.g:=by rw[js,G];rfl
  have Q:=cN G;simp[w,t,o,aF o,H,-ax];refine YF U g W G u (fun k=>dJ j _ k I) (hr y Q) (hp y Q) K yU (au w) (au J) (au t) ae ?_;intro e2 h2 L2 p1 V p9 g2 gK;simp[p9,Z];exact⟨ys.length-(j+1),ab,j+1,L2,rfl,H,au p1,au V,ae,g2,by rw[UN I];exact gK⟩
 .have:j=ys.length:=ab
  subst this;rw[pg ae] at u;simp[w,t,o,aF o,-ax];exact C _ _ L (au J) g u
end
def DY(p:Nat)(bs:List GB):List Int:=yF (qJ (kT p) bs) bs
def Zo(D:cr h){name:ByteArray}{p n0:Nat}{r:Int}(W:FZ h n0 B ys)(hp:p<1000)(yU:ys.length<=100)(w:∀b∈ys.map YB.g,b.bD.length<=300)(J:∀b∈ys.map YB.g,b.list.length<=300)(x5:∀b∈ys.map YB.g,∀x∈b.list,x.args.length<=100)(Z:∀b∈ys.map YB.g,∀q∈b.bD,q.row.length<50000)(l1:∀j,(qJ (kT p) ((ys.map YB.g).take j)).length<50000)(l2:∀i b j,(ys.map YB.g)[i]?=some b->(Bl (yF (qJ (kT p) (ys.map YB.g)) ((ys.map YB.g).take i)) (b.bD.take j)).length<50000):bc FF 95 [.agg ⟨aC name p r B⟩] h (fun v h'=>ay aZ h h'/\∃L:SV,v=L.v/\bu encI h.aw h' L.v (DY p (ys.map YB.g))):=by
 refine bc.of DA ?_;unfold vn;simp[aC];refine aO.cut (fun h1=>ay aZ h h1/\dg h1 h.aw (aC name p r B)) ⟨(ay.refl D).new _ _,0,by simp[aC]⟩ ?_;rintro h1⟨o,sS,u⟩;have C:=W.ck D o;refine acO o.ok hp u ae (by simp[cK]) ae ?_;intro e2 h2 L2 p1 E U Q;simp;refine UO o.ok (.refl o.ok) U C.view Q (aj yU) w J x5 l1 u (au p1) (au E) ae ?_;intro e3 h3 L3 K I g3 G;simp;refine Rc o.ok g3 C G l2 (fun y t q hq=>Z _ (EX t) q.1 (EX hq)) (fun y t=>by have:=w _ (EX t);simp[YB.g] at this;omega) u ab (au K) (au I) ae ?_;intro e4 h4 V s3 g4 H;simp[s3];exact⟨o.trans g4,V,ae,bu.low H o.aw⟩
def yZ.ext{f o:Lo->Option Nat}{a b:Nat}{E C:Lo}(w:yZ False f)(lt:∀l c,f l=some c->c<a)(h:∀l c,o l=some c->f l=some c\/(l=E/\a<=c/\c<b)\/(l=C/\a<=c/\b<=c)):yZ False o:=fun x y c I u=>by rcases h x c I with p|⟨p,t,D⟩|⟨p,t,D⟩<;>rcases h y c u with q|⟨q,G,H⟩|⟨q,G,H⟩;exact w x y c p q;have:=lt x c p;omega;have:=lt x c p;omega;have:=lt y c q;omega;exact .inl (p.trans q.symm);omega;have:=lt y c q;omega;omega;exact .inl (p.trans q.symm)
structure BF(h:az)(n0 X:Nat)(y:YB):Prop where
 hX:dg h X (dZ.enc y)
 P:bu iG n0 h y.P.v y.ps
 L:bu gu n0 h y.L.v y.ls
 T:eo encI h y.T y.to
 ps:∀q∈y.ps,eo cC h q.2 q.1.row
 ls:∀x∈y.ls,eo cC h x.2 x.1.args
 inj:yZ False y.loc
 new:∀l c,y.loc l=some c->n0<=c/\c<h.aw/\c≠X
section
variable{h h':az}{n0 X:Nat}{y:YB}
def BF.z(w:BF h n0 X y):BZ h y:=⟨dI w.P,dI w.L,w.T,w.ps,w.ls⟩
def BF.go{S:Nat->Prop}(w:BF h n0 X y)(t:cr h)(g:ay S h h')(u:∀c,S c->c≠X/\∀l,y.loc l≠some c):BF h' n0 X y:=by obtain⟨s,C⟩:=w.hX;have z:=w.z.go t g fun c l o=>(u c o).2 l;have D:=g.aw;exact⟨⟨s,g.get t C fun e=>(u _ e).1 rfl⟩,w.P.grow t g fun c o e=>(u c e).2 .P (dq o),w.L.grow t g fun c o e=>(u c e).2 .L (dq o),z.T,z.ps,z.ls,w.inj,fun l c e=>⟨(w.new l c e).1,av ((w.new l c e).2.1),(w.new l c e).2.2⟩⟩
def BF.ck(w:BF h n0 X y)(o:cr h)(g:ay aZ h h'):BF h' n0 X y:=w.go o g (fun _ h=>h.elim)
def BF.S6(w:BF h n0 X y)(D:cr h){p:GP}(hn:n0<=h.aw)(g:ay (fun c=>c=X\/eR y.P=some c) h h')(U:dg h' X (dZ.enc {y with P:=P',ps:=y.ps++[(p,A)]}))(C:bu iG n0 h' P'.v (y.ps++[(p,A)]))(H:eo cC h' A p.row)(V:∀c,eR A=some c->h.aw<=c/\c<m)(Q:∀c,eR P'=some c->h.aw<=c/\m<=c)(W:X<h.aw):BF h' n0 X {y with P:=P',ps:=y.ps++[(p,A)]} :=by
 have Z:=g.aw;have no:∀c l,l≠ .P->(c=X\/eR y.P=some c)->y.loc l≠some c:=fun c l J o e=>o.elim (w.new l c e).2.2 fun h=>(w.inj l .P c e h).elim J fun h=>h.1;have z:=w.z;have cn:∀q∈y.ps,eo cC h' q.2 q.1.row:=fun q t=>by obtain⟨k,E⟩:=iI t;exact(z.ps q t).go D g fun c o=>by rw[<-YB.jN E];exact no c (.R k) nofun o
 have key:∀l c,({y with P:=P',ps:=y.ps++[(p,A)]} :YB).loc l=some c->y.loc l=some c\/(l=.R y.ps.length/\h.aw<=c/\c<m)\/(l=.P/\h.aw<=c/\m<=c):=fun l c e=>by
  cases l with
  |P=>exact .inr (.inr ⟨rfl,Q c e⟩)
  |R j=>
   obtain⟨q,h1,G⟩:=Ev.1 e;by_cases K:j<y.ps.length;rw[Iw K] at h1;exact .inl (Ev.2 ⟨q,h1,G⟩)
   .rw[Ke ab] at h1;have:j-y.ps.length=0:=by have:=(di.mp h1).1;simp at this;omega
    rw[this] at h1;cases h1;exact .inr (.inl ⟨by rw[show j=y.ps.length by omega],V c G⟩)
  |_=>exact .inl e
 refine⟨U,C,w.L.grow D g fun c o e=>no c .L nofun e (dq o),w.T.go D g fun c o=>no c .T nofun o,fun q t=>?_,fun x I=>?_,w.inj.ext (fun l c e=>(w.new l c e).2.1) key,fun l c e=>?_⟩;rcases jS.1 t with t|t;exact cn q t;cases List.mem_singleton.1 t;exact H
 .obtain⟨k,E⟩:=iI I;exact(z.ls x I).go D g fun c o=>by rw[<-YB.mm E];exact no c (.X k) nofun o
 .have lt:c<h'.aw:=by rcases key l c e with u|⟨rfl,_⟩|⟨rfl,_⟩;have:=(w.new l c u).2.1;omega;rw[YB.jN (q:=(p,A)) ae] at e;exact H.lt g.ok e;exact(dI C).lt g.ok e
  rcases key l c e with u|⟨_,u,_⟩|⟨_,u,_⟩;have:=w.new l c u;exact⟨this.1,lt,this.2.2⟩;exact⟨ab,lt,ab⟩;exact⟨ab,lt,ab⟩
def BF.ins(w:BF h n0 X y)(D:cr h)(Z:n0<=h.aw)(g:ay (fun c=>c=X\/eR y.L=some c) h h')(Q:dg h' X (dZ.enc {y with L:=L',ls:=y.ls++[(x,A)]}))(C:bu gu n0 h' L'.v (y.ls++[(x,A)]))(H:eo cC h' A x.args)(U:∀c,eR A=some c->h.aw<=c/\c<m)(K:∀c,eR L'=some c->h.aw<=c/\m<=c)(V:X<h.aw):BF h' n0 X {y with L:=L',ls:=y.ls++[(x,A)]} :=by
 have W:=g.aw;have no:∀c l,l≠ .L->(c=X\/eR y.L=some c)->y.loc l≠some c:=fun c l I t e=>t.elim (w.new l c e).2.2 fun h=>(w.inj l .L c e h).elim I fun h=>h.1;have z:=w.z;have key:∀l c,({y with L:=L',ls:=y.ls++[(x,A)]} :YB).loc l=some c->y.loc l=some c\/(l=.X y.ls.length/\h.aw<=c/\c<m)\/(l=.L/\h.aw<=c/\m<=c):=fun l c e=>by
  cases l with
  |L=>exact .inr (.inr ⟨rfl,K c e⟩)
  |X j=>
   obtain⟨q,h1,G⟩:=Ev.1 e;by_cases J:j<y.ls.length;rw[Iw J] at h1;exact .inl (Ev.2 ⟨q,h1,G⟩)
   .rw[Ke ab] at h1;have:j-y.ls.length=0:=by have:=(di.mp h1).1;simp at this;omega
    rw[this] at h1;cases h1;exact .inr (.inl ⟨by rw[show j=y.ls.length by omega],U c G⟩)
  |_=>exact .inl e
 refine⟨Q,w.P.grow D g fun c t e=>no c .P nofun e (dq t),C,w.T.go D g fun c t=>no c .T nofun t,fun q o=>?_,fun q o=>?_,w.inj.ext (fun l c e=>(w.new l c e).2.1) key,fun l c e=>?_⟩
 .obtain⟨k,E⟩:=iI o;exact(z.ps q o).go D g fun c t=>by rw[<-YB.jN E];exact no c (.R k) nofun t
 .rcases jS.1 o with o|o
  .obtain⟨k,E⟩:=iI o;exact(z.ls q o).go D g fun c t=>by rw[<-YB.mm E];exact no c (.X k) nofun t
  cases List.mem_singleton.1 o;exact H
 .have lt:c<h'.aw:=by rcases key l c e with u|⟨rfl,_⟩|⟨rfl,_⟩;have:=(w.new l c u).2.1;omega;rw[YB.mm (q:=(x,A)) ae] at e;exact H.lt g.ok e;exact(dI C).lt g.ok e
  rcases key l c e with u|⟨_,u,_⟩|⟨_,u,_⟩;have:=w.new l c u;exact⟨this.1,lt,this.2.2⟩;exact⟨ab,lt,ab⟩;exact⟨ab,lt,ab⟩
end
def aD.mem{R:List Value->α->Prop}{sz:Nat}{L:SV}{xs:List α}(s:aD R sz h L.v xs){x:α}(E:xs[i]?=some x):∃b off u t o st,L.a=some ⟨b,off,none⟩/\h.tr.get b=some (.bZ u t o st):=by obtain⟨a,C,e,s⟩:=s;simp at e;rcases s with⟨rfl,_⟩|⟨b,off,u,t,o,st,w,D,_⟩;simp at E;exact⟨b,off,u,t,o,st,by rw[e.1,w],D⟩
structure Kq(h0:az)(P0 L0 T0:SV)(b:GB):Prop where
 sP:aD (pR h0) 2 h0 P0.v b.bD
 sL:aD (iR h0) 8 h0 L0.v b.list
 sT:aD nR 1 h0 T0.v b.to
 lp:b.bD.length<100000
 ll:b.list.length<100000
 lr:∀p∈b.bD,p.row.length<100000
 la:∀x∈b.list,x.args.length<100000
 lt:b.to.length<100000
def df(P0 L0 T0:SV)(b:GB):List Value:=[P0.v,L0.v,.int .i64 b.kind,.bool b.on.1,.int .i64 b.on.2,T0.v]
def tA.eR{α:Type}{E:Enc α}{n0:Nat}{h:az}(u:cr h){L:SV}{xs:List α}(a:tA E n0 h L.v xs){c:Nat}(e:Go.Proofs.YtdhnndleffachaaGreatDoor.eR L=some c):n0<=c/\c<h.aw:=by have A:=De a;refine⟨?_,A.lt u e⟩;rcases A.2 with⟨t,_⟩|⟨b,o,s,w,t,_⟩;simp[Go.Proofs.YtdhnndleffachaaGreatDoor.eR,t] at e;rw[cy t] at e;cases e;exact a.of (eY t)
def iE{E:Enc α}{L:SV}{xs:List α}(A:eo E h L xs)(e:eR L=some c):bt L.v c:=by rcases A.2 with⟨t,_⟩|⟨b,o,s,u,t,_⟩;simp[eR,t] at e;rw[cy t] at e;cases e;exact eY t
def arV(h1:az)(n0 S X:Nat)(y0:YB)(b:GB)(m:Nat)(e:Env)(h':az):Prop:=
 ∃(j:Nat) (P:SV) (ps:List (GP×SV)),m=b.bD.length-j/\j<=b.bD.length/\cm e 1 S/\cm e 2 (S+1)/\cm e 3 X/\bJ e 4 j/\ay (· =X) h1 h'/\(∀c,bt P.v c->h1.aw<=c)/\BF h' n0 X {y0 with P:=P,ps:=ps} /\ps.map (·.1)=b.bD.take j
def PO(dt:cr h0)(yP:ay aZ h0 h1)(Z:Kq h0 P0 L0 T0 b){n0 S X sS:Nat}(uU:n0<=h1.aw)(hS:fC h1 S (df P0 L0 T0 b) sS)(hSX:S≠X)(E5:h0.aw<=X)(w:BF h1 n0 X y0)(hP:y0.P=cK)(ju:y0.ps=[])(f1:cm e 1 S)(f2:cm e 2 (S+1))(f3:cm e 3 X)(f4:bJ e 4 0)(C:∀e' h' P' o,cm e' 1 S->cm e' 2 (S+1)->cm e' 3 X->ay (· =X) h1 h'->BF h' n0 X {y0 with P:=P',ps:=o} ->o.map (·.1)=b.bD->QQ (.exit 0) e' h'):aO FF (.loop jI) e h1 QQ:=by
 have gY:=aD.len Z.sP;have hlp:=Z.lp;refine aO.loop (arV h1 n0 S X y0 b) ?_ (n:=b.bD.length) ⟨0,cK,[],rfl,ab,f1,f2,f3,f4,.refl yP.ok,fun c G=>(Dw rfl G).elim,by rw[<-hP,<-ju];exact w,rfl⟩;rintro m e' h'⟨j,P',o,rfl,hj,q1,q2,q3,q4,g,hPn,Q,mp⟩;have t:=g.ok;have g0:ay aZ h0 h':=yP.trans' g ai (fun x hx e=>ab);obtain⟨sX,hX⟩:=Q.hX;have xb:=g.get yP.ok hS ab;have H:=xb;simp[df] at H;rw[gY] at H;have K:=hX;simp at K;have pl:o.length=j:=by have:=congrArg List.length mp;simp at this;omega
 unfold jI;by_cases bk:j<b.bD.length;have wj:=cg ((j:Int)+1) ab ab;obtain⟨p,hp⟩:=aV b.bD j bk;have Yd:=cN hp;obtain⟨bP,apy,cP,kB,_,_,⟨A,rfl,sA⟩,oP,KW⟩:=aD.later dt Z.sP hp;have Ec:=KW h' g0 0 1 ag;have rd1:=KW h' g0 1 1 ag;simp[-ax] at Ec rd1;rw[kB] at H;have oS:=t.cn H;have oX:=t.cn K;have YK:=g0.cn oP;have stS:=t.st _ _ _ _ _ H;have Vr:=t.st _ _ _ _ _ K;simp[q1,q3,q4,H,K,aF H,aF K,bk,Ec,rd1,oS,oX,YK,aQ,bw,-ax];obtain⟨bP',aAB,csP,roP,oPP,stP,v8,DN⟩:=aD.mem Z.sP hp;rw[kB] at v8;simp at v8;obtain⟨rfl,rfl⟩:=v8;have anB:=g0.get dt DN;have axW:=t.st _ _ _ _ _ anB;have sA':=(BP sA).ck dt g0;have D:=bC t;have hS1:=D.get t H;have Iz:=D.get t K;have aun:=D.get t anB;have sA1:=sA'.ck t D;have nt:(tick h').aw=h'.aw:=rfl;rw[<-nt];generalize htk:tick h'=h2 at*;obtain⟨U,V,ha,aA,u⟩:=EH (bytes:=16) D.ok (E:=cC) (z:=[.bool false,.int .i64 0]) rfl sA1 (av (Z.lr p Yd)) ag;have hS3:=u.get D.ok hS1;have eD:=u.get D.ok Iz;have auo:=u.get D.ok aun;refine mn (aj ha) ?_;simp[hS3,eD,auo,stS,Vr,axW];have J:=aN u.ok (iG.enc (p,U)) 0;have kR:=J.get u.ok eD;have zK:bj iG (aK V (iG.enc (p,U)) 0) (.slice (some ⟨V.aw,0,none⟩) 1 1) [(p,U)]:=dz (bz _ _ _);have n2:(aK V (iG.enc (p,U)) 0).aw=V.aw+1:=rfl;have l1:=g.aw;have l3:=u.aw;have w3:=((Q.ck t D).ck D.ok u).ck u.ok J;obtain⟨v',h5,hb,qq,I,ID⟩:=fx (bytes:=32) J.ok (z:=[.int .i64 0,.slice none 0 0]) rfl w3.P zK (by simp;omega) ag ab;obtain⟨P5,rfl⟩:=bu.C5 qq;refine mn (aj hb) ?_;have oJ:=I.get J.ok kR (fun e=>(Q.new .P X (dq e)).2.2 rfl);simp[oJ,q3,q4,wj];have W:=aY (off:=0) (vs:=[P5.v]) I.ok oJ;simp at W;have lX:=t.wf _ _ K;have ln5:=I.aw;have g26:ay (fun c=>c=X\/eR P'=some c) h' _:=(((D.trans u).trans J).ck.trans (I.cY (fun c _ e=>.inr (dq (A:=P') e)))).trans (W.cY fun c _ e=>.inl (e:c=X));have ahZ:bu iG n0 (put h5 X 0 _ [P5.v] 0) P5.v (o++[(p,U)]):=qq.grow I.ok W (fun c G e=>av (ID c G));have aA6:=(((De aA).ck u.ok J).go J.ok I (fun c G e=>by have:=(tA.eR u.ok aA e).1;have:=(dI Q.P).lt t (dq (A:=P') G);omega)).go I.ok W (fun c G e=>av ((tA.eR u.ok aA e).1));refine⟨b.bD.length-(j+1),ab,j+1,P5,o++[(p,U)],rfl,bk,au q1,au q2,au q3,ae,(((g.trans D.ck).trans u.ck).trans J.ck).trans' I ai (fun c G e=>av (hPn c e)) |>.trans W,fun c G=>av (ID c G),?_,by rw[List.map_append,mp,lg,hp];rfl⟩;exact Q.S6 t (m:=V.aw) ab g26 ⟨h5.clock,by rw[aP];rfl⟩ ahZ aA6 (fun c e=>av (tA.eR u.ok aA e)) (fun c e=>av (ID c (iE (dI qq) e))) lX
 .have:j=b.bD.length:=ab
  subst this;rw[jT] at mp;simp[q1,q4,H];exact C _ _ P' o (au q1) (au q2) (au q3) g Q mp
def arU(h1:az)(n0 S X:Nat)(y0:YB)(b:GB)(m:Nat)(e:Env)(h':az):Prop:=
 ∃(j:Nat) (L:SV) (o:List (GI×SV)),m=b.list.length-j/\j<=b.list.length/\cm e 1 S/\cm e 2 (S+1)/\cm e 3 X/\bJ e 5 j/\ay (· =X) h1 h'/\(∀c,bt L.v c->h1.aw<=c)/\BF h' n0 X {y0 with L:=L,ls:=o} /\o.map (·.1)=b.list.take j
def PN(dt:cr h0)(yP:ay aZ h0 h1)(Z:Kq h0 P0 L0 T0 b){n0 S X sS:Nat}(uU:n0<=h1.aw)(hS:fC h1 S (df P0 L0 T0 b) sS)(hSX:S≠X)(E5:h0.aw<=X)(w:BF h1 n0 X y0)(hP:y0.L=cK)(ju:y0.ls=[])(f1:cm e 1 S)(f2:cm e 2 (S+1))(f3:cm e 3 X)(f5:bJ e 5 0)(C:∀e' h' L' o,cm e' 2 (S+1)->cm e' 3 X->ay (· =X) h1 h'->BF h' n0 X {y0 with L:=L',ls:=o} ->o.map (·.1)=b.list->QQ (.exit 2) e' h'):aO FF (.loop jH) e h1 QQ:=by
 have jt:=aD.len Z.sL;have Ki:=Z.ll;have gi:=yP.ok;refine aO.loop (arU h1 n0 S X y0 b) ?_ (n:=b.list.length) ⟨0,cK,[],rfl,ab,f1,f2,f3,f5,.refl gi,fun c t=>(Dw rfl t).elim,by rw[<-hP,<-ju];exact w,rfl⟩;rintro m e' h'⟨j,L',o,rfl,hj,q1,q2,q3,q5,g,hLn,W,mp⟩;have Q:=g.ok;have g0:ay aZ h0 h':=yP.trans' g ai (fun x hx e=>ab);obtain⟨sX,hX⟩:=W.hX;have KQ:=g.get gi hS hSX;simp[df] at KQ;rw[jt] at KQ;have eC:=hX;simp at eC;have pl:o.length=j:=by have:=congrArg List.length mp;simp at this;omega
 unfold jH;by_cases bk:j<b.list.length
 .have wj:=cg ((j:Int)+1) ab ab;obtain⟨x,hx⟩:=aV b.list j bk;have Kl:=cN hx;obtain⟨bL,axh,cL,SM,_,_,⟨A,rfl,sA⟩,oL,hrdL⟩:=aD.later dt Z.sL hx;have Ec:=hrdL h' g0 0 8 ag;simp[-ax,aJ] at Ec;rw[SM] at KQ;have sA':=(BP sA).ck dt g0;have lX:=Q.wf _ _ eC;have nX1:¬X=h'.aw:=ab
  simp[q1,q3,q5,KQ,eC,aF KQ,aF eC,bk,Ec,bw,aH,cH,bg,nX1,-ax];have H:ay aZ h' (put (aK h' [.int .i64 0,.int .i64 0,.bool false,.int .i64 0,.bool false,.int .i64 0,.int .i64 0,.slice none 0 0] 0) h'.aw 0 [.int .i64 0,.int .i64 0,.bool false,.int .i64 0,.bool false,.int .i64 0,.int .i64 0,.slice none 0 0] (gu.enc (x,A)) 0):=(ay.refl Q).var _ _;have hI:(put (aK h' [.int .i64 0,.int .i64 0,.bool false,.int .i64 0,.bool false,.int .i64 0,.int .i64 0,.slice none 0 0] 0) h'.aw 0 [.int .i64 0,.int .i64 0,.bool false,.int .i64 0,.bool false,.int .i64 0,.int .i64 0,.slice none 0 0] (gu.enc (x,A)) 0).tr.get h'.aw=some (.bZ (gu.enc (x,A)) false 0 h'.clock):=by rw[aP];rfl
  have nv:(put (aK h' [.int .i64 0,.int .i64 0,.bool false,.int .i64 0,.bool false,.int .i64 0,.int .i64 0,.slice none 0 0] 0) h'.aw 0 [.int .i64 0,.int .i64 0,.bool false,.int .i64 0,.bool false,.int .i64 0,.int .i64 0,.slice none 0 0] (gu.enc (x,A)) 0).aw=h'.aw+1:=rfl;simp only[Ii,SV.yJ] at H hI nv;rw[<-nv];generalize put (aK h' _ 0) h'.aw 0 _ _ 0=h2 at*;have sA2:=sA'.ck Q H;obtain⟨u,U,ha,aA,J⟩:=EH (bytes:=16) H.ok (E:=cC) (z:=[.bool false,.int .i64 0]) rfl sA2 (av (Z.la x Kl)) ag;refine cR (aj ha) ?_;have hI3:=J.get H.ok hI;have eD:=J.get H.ok (H.get Q eC (fun h=>h));have I:=aY (off:=7) (vs:=[u.v]) J.ok hI3;have l2:=H.aw;have l3:=J.aw;have nXi:X≠h'.aw:=ab
  have kR:=I.get J.ok eD nXi;have hI4:(put U h'.aw 7 (gu.enc (x,A)) [u.v] 0).tr.get h'.aw=some (.bZ (gu.enc (x,u)) false 0 U.clock):=by rw[aP];rfl
  simp only[Ii,SV.yJ] at I kR hI4;simp[hI3,q3,nX1,eD,bg];generalize hh4:put U h'.aw 7 _ _ 0=h4 at*;have l4:=I.aw;have g03:ay aZ h' h4:=(H.trans J).trans' I ai (fun c t e=>ab);have e4:h4.aw=U.aw:=by rw[<-hh4];rfl
  rw[<-e4];have V:=aN I.ok (gu.enc (x,u)) 0;have DJ:=g03.trans V;have w4:=W.ck Q DJ;have oJ:=V.get I.ok kR;have zK:bj gu (aK h4 (gu.enc (x,u)) 0) (.slice (some ⟨h4.aw,0,none⟩) 1 1) [(x,u)]:=dz (bz _ _ _);have n2:(aK h4 (gu.enc (x,u)) 0).aw=h4.aw+1:=rfl;have l1:=g.aw;obtain⟨v',h6,hb,uX,G,K⟩:=fx (bytes:=80) V.ok (z:=[.int .i64 0,.int .i64 0,.bool false,.int .i64 0,.bool false,.int .i64 0,.int .i64 0,.slice none 0 0]) rfl w4.L zK (by simp;omega) ag ab;obtain⟨L6,rfl⟩:=bu.C5 uX;refine cR (aj hb) ?_;have po:=G.get V.ok oJ (fun e=>(W.new .L X (dq e)).2.2 rfl);simp[po,q3,q5,wj];have g7:=aY (off:=1) (vs:=[L6.v]) G.ok po;simp at g7;have ln6:=G.aw;have D:∀c,eR u=some c->h2.aw<=c/\c<U.aw:=fun c e=>tA.eR J.ok aA e;have g27:ay (fun c=>c=X\/eR L'=some c) h' _:=(DJ.ck.trans (G.cY (fun c _ e=>.inr (dq (A:=L') e)))).trans (g7.cY fun c _ e=>.inl (e:c=X));have ahZ:bu gu n0 (put h6 X 1 _ [L6.v] 0) L6.v (o++[(x,u)]):=uX.grow G.ok g7 (fun c t e=>av (K c t));have aA6:=((((De aA).go J.ok I (fun c t e=>av (D c e))).ck I.ok V).go V.ok G (fun c t e=>by have:=D c e;have:=(dI W.L).lt Q (dq (A:=L') t);omega)).go G.ok g7 (fun c t e=>av (D c e));refine⟨b.list.length-(j+1),ab,j+1,L6,o++[(x,u)],rfl,bk,au q1,au q2,au q3,ae,((g.trans DJ.ck).trans' G ai (fun c t e=>av (hLn c e))).trans g7,fun c t=>av (K c t),?_,by rw[List.map_append,mp,lg,hx];rfl⟩;exact W.ins Q (m:=U.aw) ab g27 ⟨h6.clock,by rw[aP];rfl⟩ ahZ aA6 (fun c e=>av (D c e)) (fun c e=>av (K c (iE (dI uX) e))) lX
 .have:j=b.list.length:=ab
  subst this;rw[jT] at mp;simp[q1,q5,KQ];exact C _ _ L' o (au q2) (au q3) g W mp
def RBZ(b:GB)(h:az)(v:Value)(h':az):Prop:=ay aZ h h'/\∃y:YB,v=.agg ⟨dZ.enc y⟩/\BZ h' y/\y.g=b/\yZ False y.loc/\∀l c,y.loc l=some c->h.aw<=c
def Eb(dt:cr h0)(g0:ay aZ h0 h)(Z:Kq h0 P0 L0 T0 b):bc FF 90 [.agg ⟨df P0 L0 T0 b⟩] h (RBZ b h):=by
 have ok:=g0.ok;have n1:¬h.aw=h.aw+1:=ab
 refine bc.of AO ?_;unfold rV;have n2:¬h.aw=h.aw+1+1:=ab
 have n3:¬h.aw+1=h.aw+1+1:=ab
 have g1:=aN ok (df P0 L0 T0 b) 0;have g2:=aN g1.ok [.slice none 0 0,.slice none 0 0,.int .i64 0,.bool false,.int .i64 0,.slice none 0 0] 0;have g3:=bC g2.ok;have g4:=aN g3.ok [] 0;have g5:=aN g4.ok [.slice none 0 0,.slice none 0 0,.int .i64 0,.bool false,.int .i64 0,.slice none 0 0] 0;have E:ay aZ h _:=(((g1.trans g2).trans g3).trans g4).trans g5;have eA:tA encI (h.aw+1+1) _ (.slice (some ⟨h.aw+1+1,0,none⟩) 0 0) []:=.inr ⟨rfl,h.aw+1+1,0,rfl,g5.get g4.ok (bz (tick (aK (aK h (df P0 L0 T0 b) 0) [.slice none 0 0,.slice none 0 0,.int .i64 0,.bool false,.int .i64 0,.slice none 0 0] 0)) [] 0) (fun h=>h),fh _⟩;have hS5:=(((g2.trans g3).trans g4).trans g5).get g1.ok (bz h (df P0 L0 T0 b) 0);have Ak:=((g3.trans g4).trans g5).get g2.ok (bz (aK h (df P0 L0 T0 b) 0) [.slice none 0 0,.slice none 0 0,.int .i64 0,.bool false,.int .i64 0,.slice none 0 0] 0);have oJ:=bz (aK (tick (aK (aK h (df P0 L0 T0 b) 0) [.slice none 0 0,.slice none 0 0,.int .i64 0,.bool false,.int .i64 0,.slice none 0 0] 0)) [] 0) [.slice none 0 0,.slice none 0 0,.int .i64 0,.bool false,.int .i64 0,.slice none 0 0] 0;have nA:(aK (aK (tick (aK (aK h (df P0 L0 T0 b) 0) [.slice none 0 0,.slice none 0 0,.int .i64 0,.bool false,.int .i64 0,.slice none 0 0] 0)) [] 0) [.slice none 0 0,.slice none 0 0,.int .i64 0,.bool false,.int .i64 0,.slice none 0 0] 0).aw=h.aw+4:=rfl;simp[df,n1,n2,n3];simp only[df,SV.yJ] at E eA hS5 Ak oJ nA;generalize hh5:aK (aK (tick (aK (aK h [.slice P0.a P0.l P0.c,.slice L0.a L0.l L0.c,.int .i64 b.kind,.bool b.on.1,.int .i64 b.on.2,.slice T0.a T0.l T0.c] 0) [.slice none 0 0,.slice none 0 0,.int .i64 0,.bool false,.int .i64 0,.slice none 0 0] 0)) [] 0) [.slice none 0 0,.slice none 0 0,.int .i64 0,.bool false,.int .i64 0,.slice none 0 0] 0=h5 at*;have sT5:=(Rh Z.sT).ck dt (g0.trans E);obtain⟨vT,h6,ha,aT,_,u⟩:=tc (bytes:=8) (z:=[.int .i64 0]) E.ok rfl eA sT5 (by have:=Z.lt;simp;omega) ag ab;obtain⟨T,rfl⟩:=tA.sv aT;refine mn (aj ha) ?_;have nE:∀c,bt (Value.slice (some ⟨h.aw+1+1,0,none⟩) 0 0) c->c=h.aw+2:=fun c o=>by obtain⟨_,_,_,e⟩:=o;cases e;rfl
 have hS6:=u.get E.ok hS5 (fun e=>av (nE _ e));have Ex:=u.get E.ok Ak (fun e=>by have:=nE _ e;simp at this);have U:=u.get E.ok oJ (fun e=>by have:=nE _ e;simp at this);simp at Ex U;have D:tA encI (h.aw+1+1) h6 T.v b.to:=aj aT
 have nTX:∀c,bt T.v c->c≠h.aw+1+1+1:=fun c o e=>by rcases D with a|⟨_,b2,s2,w,pz,_⟩;rcases a with⟨_,w⟩|⟨b2,s2,w,pz,_,_⟩;rw[w] at o;obtain⟨_,_,_,e3⟩:=o;cases e3;rw[w] at o;obtain⟨_,_,_,e3⟩:=o;cases e3;rw[e,U] at pz;simp at pz;rw[w] at o;obtain⟨_,_,_,e3⟩:=o;cases e3;rw[e,U] at pz;simp at pz
 have Ge:ay aZ h h6:=E.trans' u ai (fun c o e=>av (nE c e));simp[hS6,Ex,U];have C:=aY (off:=0) (vs:=[Value.slice none 0 0,Value.slice none 0 0,Value.int IntKind.i64 b.kind,Value.bool b.on.1,Value.int IntKind.i64 b.on.2,Value.slice T.a T.l T.c]) u.ok U;have TL:ay aZ h _:=Ge.trans' C ai (fun c o e=>ab);have LZ:(put h6 (h.aw+1+1+1) 0 [.slice none 0 0,.slice none 0 0,.int .i64 0,.bool false,.int .i64 0,.slice none 0 0] [Value.slice none 0 0,Value.slice none 0 0,Value.int IntKind.i64 b.kind,Value.bool b.on.1,Value.int IntKind.i64 b.on.2,Value.slice T.a T.l T.c] 0).tr.get (h.aw+1+1+1)=some (.bZ [cK.v,cK.v,.int .i64 b.kind,.bool b.on.1,.int .i64 b.on.2,T.v] false 0 h6.clock):=by rw[aP];rfl
 have Q:=C.get u.ok hS6 ab;have hR7:=C.get u.ok Ex ab;have H:=(De D).grow u.ok C (fun c o e=>nTX c o e);generalize put h6 (h.aw+1+1+1) 0 _ _ 0=h7 at*;obtain⟨y0,t⟩:∃y0:YB,y0=⟨cK,cK,T,b.kind,b.on,[],[],b.to⟩:=⟨_,rfl⟩;have only:∀l c,y0.loc l=some c->l=.T/\eR T=some c:=fun l c e=>by subst t;cases l<;>first|exact⟨rfl,e⟩|exact absurd e (by simp[YB.loc,eR,cK])
 have w7:BF h7 (h.aw+1+1) (h.aw+1+1+1) y0:=by refine⟨⟨_,by rw[t];exact LZ⟩,by rw[t];exact .inl ⟨rfl,rfl⟩,by rw[t];exact .inl ⟨rfl,rfl⟩,by rw[t];exact H,by rw[t];exact nofun,by rw[t];exact nofun,fun a b c h1 h2=>.inl ((only a c h1).1.trans (only b c h2).1.symm),fun l c e=>?_⟩;have w:=(only l c e).2;exact⟨(tA.eR u.ok D w).1,H.lt C.ok w,nTX c (iE H w)⟩
 have l7:=TL.aw;have l0:=g0.aw;have lX7:=C.ok.wf _ _ LZ;refine PO dt (g0.trans TL) Z (n0:=h.aw+1+1) (S:=h.aw) (X:=h.aw+1+1+1) ab (by simpa [df] using Q) ab ab w7 (by rw[t]) (by rw[t]) ae ae ae ae ?_;intro e8 h8 P8 K p1 p2 p3 W w8 m8;simp;have V:ay aZ h h8:=TL.trans' W ai (fun c o e=>ab);have l8:=W.aw;have hS8:=W.get C.ok Q ab;have hR8:=W.get C.ok hR7 ab;refine PN dt (g0.trans V) Z (n0:=h.aw+1+1) (S:=h.aw) (X:=h.aw+1+1+1) ab (by simpa [df] using hS8) ab ab w8 (by rw[t]) (by rw[t]) (au p1) (au p2) (au p3) ae ?_;intro e9 h9 L9 J r2 r3 g9 w9 m9;obtain⟨sX,hX9⟩:=w9.hX;have anR:=hX9;simp[t] at anR;have hR9:=g9.get W.ok hR8 ab;have g09:ay aZ h h9:=V.trans' g9 ai (fun c o e=>ab);simp[r2,r3,anR,hR9];have G:=aY (off:=0) (vs:=[P8.v,L9.v,.int .i64 b.kind,.bool b.on.1,.int .i64 b.on.2,T.v]) g9.ok hR9;simp at G;have I:∀l c,({y0 with P:=P8,ps:=K,L:=L9,ls:=J} :YB).loc l=some c->h.aw+1+1<=c:=fun l c e=>(w9.new l c e).1;refine⟨g09.trans' G ai (fun c o e=>ab),{y0 with P:=P8,ps:=K,L:=L9,ls:=J},au t,w9.z.go g9.ok G (fun c l o e=>av (I l c e)),by simp[YB.g,m8,m9,t],w9.inj,fun l c e=>av (I l c e)⟩
section
variable{h h':az}{n0:Nat}{B B':SV}{ys:List YB}{y:YB}{S:Nat->Prop}
def FZ.push(W:FZ h n0 B ys)(V:wI B ys)(w:cr h)(g:ay S h h')(J:∀c,S c->eR B=some c\/h.aw<=c)(hn:n0<=h.aw)(A:eo dZ h' B' (ys++[y]))(z:BZ h' y)(K:yZ False y.loc)(E:∀l c,y.loc l=some c->h.aw<=c/\c<m)(Q:∀c,eR B'=some c->h.aw<=c/\m<=c):FZ h' n0 B' (ys++[y])/\wI B' (ys++[y]):=by
 have key:∀(o:Option (Nat×Lo))(c:Nat),eV B' (ys++[y]) o=some c->(o=none/\h.aw<=c/\m<=c)\/(∃l,o=some (ys.length,l)/\y.loc l=some c)\/(o≠none/\eV B ys o=some c):=fun o c e=>by
  match o with
  |none=>exact .inl ⟨rfl,Q c e⟩
  |some (i,l)=>
   obtain⟨q,h1,C⟩:=Ev.1 e;by_cases G:i<ys.length
   .rw[Iw G] at h1;exact .inr (.inr ⟨nofun,Ev.2 ⟨q,h1,C⟩⟩)
   .rw[Ke ab] at h1;have:i-ys.length=0:=by have:=(di.mp h1).1;simp at this;omega
    rw[this] at h1;cases h1;exact .inr (.inl ⟨l,by rw[show i=ys.length by omega],C⟩)
 have inj:wI B' (ys++[y]):=fun a b c h1 C=>by
  rcases key a c h1 with⟨p,t,Z⟩|⟨l,p,t⟩|⟨p,t⟩<;>rcases key b c C with⟨q,u,q2⟩|⟨k,q,u⟩|⟨q,u⟩;exact .inl (p.trans q.symm);have:=E k c u;omega;have:=W.lt w u;omega;have:=E l c t;omega;exact(K l k c t u).imp (fun e=>by rw[p,q,e]) fun e=>e.1.elim;have:=E l c t;have:=W.lt w u;omega
  have:=W.lt w t;omega;have:=E k c u;have:=W.lt w t;omega
  exact V a b c t u
 refine⟨⟨A,fun x D=>?_,fun a b c h1 C=>(inj a b c h1 C).imp id fun e=>e.1.elim,fun o c e=>?_⟩,inj⟩
 .rcases jS.1 D with D|D
  .obtain⟨i,G⟩:=iI D;refine(W.r x D).go w g fun c l U e=>?_;have I:eV B ys (some (i,l))=some c:=by rw[cz G];exact e
   rcases J c U with H|H;have:=W.tf none (some (i,l)) c H I;cases this;have:=W.lt w I;omega
  cases List.mem_singleton.1 D;exact z
 rcases key o c e with⟨_,p,_⟩|⟨l,_,p⟩|⟨_,p⟩;omega;have:=E l c p;omega;exact W.new o c p
def FZ.zero(t:n0<=h.aw):FZ h n0 cK []/\wI cK []:=by
 have no:∀(o:Option (Nat×Lo))(c:Nat),eV cK [] o≠some c:=fun o c e=>by
  match o with
  |none=>cases e
  |some (i,l)=>simp[eV] at e
 exact⟨⟨⟨rfl,.inl ⟨rfl,rfl,rfl⟩⟩,nofun,fun a b c h1 _=>absurd h1 (no a c),fun o c e=>absurd e (no o c)⟩,fun a b c h1 _=>absurd h1 (no a c)⟩
end
def FnZ(h1:az)(S X:Nat)(name:ByteArray)(p r:Int)(bs:List GB)(m:Nat)(e:Env)(h':az):Prop:=
 ∃(j:Nat) (B':SV) (ys:List YB),m=bs.length-j/\j<=bs.length/\cm e 1 S/\cm e 2 (S+1)/\cm e 3 X/\bJ e 4 j/\ay (· =X) h1 h'/\(dg h' X (aC name p r B'))/\bu dZ h1.aw h' B'.v ys/\FZ h' h1.aw B' ys/\wI B' ys/\ys.map YB.g=bs.take j
def NY(dt:cr h0)(gi:cr h1)(g0a:∀ {h':az},ay (· =X) h1 h'->ay aZ h0 h')(hB:qg h0 B bs)(Z:∀b∈bs,GQ b)(qW:bs.length<100000){S sS sX:Nat}(uU:X<h1.aw)(hS:fC h1 S (aC name p r B) sS)(hSX:S≠X)(hX:fC h1 X (aC name p r cK) sX)(f1:cm e 1 S)(f2:cm e 2 (S+1))(f3:cm e 3 X)(f4:bJ e 4 0)(C:∀e' h' B' ys,cm e' 2 (S+1)->cm e' 3 X->ay (· =X) h1 h'->(dg h' X (aC name p r B'))->FZ h' h1.aw B' ys->wI B' ys->ys.map YB.g=bs->QQ (.exit 0) e' h'):aO FF (.loop ka) e h1 QQ:=by
 have dT:=aD.len hB;have F0:=FZ.zero (h:=h1) (fh h1.aw);refine aO.loop (FnZ h1 S X name p r bs) ?_ (n:=bs.length) ⟨0,cK,[],rfl,ab,f1,f2,f3,f4,.refl gi,⟨sX,hX⟩,.inl ⟨rfl,rfl⟩,F0.1,F0.2,rfl⟩;rintro m e' h'⟨j,B2,ys,rfl,hj,q1,q2,U,q4,g,⟨sX2,eC⟩,u,F,xi,mp⟩;have t:=g.ok;have g0:ay aZ h0 h':=g0a g;have KQ:=g.get gi hS hSX;have o:=KQ;have w:=eC;simp[aC] at o w;rw[dT] at o;unfold ka;by_cases bk:j<bs.length
 .have wj:=cg ((j:Int)+1) ab ab;obtain⟨b,hb⟩:=aV bs j bk;have XY:=cN hb;obtain⟨bB,YO,cB,fp,_,_,⟨P0,L0,T0,rfl,sP,sL,sT⟩,oB,Q⟩:=aD.later dt hB hb;have rd:=Q h' g0 0 6 ag;simp[-ax] at rd;rw[fp] at o;have oS:=t.cn o;have oX:=t.cn w;have oB':=g0.cn oB;have Vr:=t.st _ _ _ _ _ w;have z:=Z b XY;simp[q1,U,q4,o,w,aF o,aF w,bk,rd,oS,oX,oB',aQ,-ax];have gt:=bC t;have nt:(tick h').aw=h'.aw:=rfl;generalize tick h'=h2 at*;refine cu.call (V:=RBZ b h2) (by simpa [df] using Eb dt (g0.trans gt) (P0:=P0) (L0:=L0) (T0:=T0) ⟨sP,sL,sT,z.lp,z.ll,z.lr,z.la,z.lt⟩) ?_;rintro _ H⟨G,y,rfl,K,yg,iy,ny⟩;have oJ:=G.get gt.ok (gt.get t w (fun h=>h));have lX:=t.wf _ _ w;simp[oJ,Vr];have J:=aN G.ok (dZ.enc y) 0;have D:=(gt.trans G).trans J;have uW:=u.grow t D ai;have po:=J.get G.ok oJ;have zK:bj dZ (aK H (dZ.enc y) 0) (.slice (some ⟨H.aw,0,none⟩) 1 1) [y]:=dz (bz _ _ _);have n2:(aK H (dZ.enc y) 0).aw=H.aw+1:=rfl;have l1:=g.aw;have l3:=G.aw;have yb:ys.length=j:=by have:=congrArg List.length mp;simp at this;omega
  obtain⟨v',h5,hb5,W,E,ID⟩:=fx (bytes:=96) J.ok (z:=[.slice none 0 0,.slice none 0 0,.int .i64 0,.bool false,.int .i64 0,.slice none 0 0]) rfl uW zK ab ag ab;obtain⟨B5,rfl⟩:=bu.C5 W;refine mn (aj hb5) ?_;have nBX:¬bt B2.v X:=fun e=>av (u.of e)
  have LZ:=E.get J.ok po nBX;simp[LZ,U,q4,wj];have g6:=aY (off:=3) (vs:=[B5.v]) E.ok LZ;simp at g6;have nl:∀l c,y.loc l=some c->h'.aw<=c/\c<H.aw:=fun l c e=>⟨av (ny l c e),K.lt G.ok e⟩;have BZ5:=(K.ck G.ok J).go J.ok E (fun c l I e=>by have:=nl l c e;have:=(dI u).lt t (dq (A:=B2) I);omega);have P5:=F.push xi (m:=H.aw) t (D.ck.trans E) (fun c I=>.inl (dq I)) l1 (dI W) BZ5 iy nl (fun c e=>av (ID c (iE (dI W) e)));refine⟨bs.length-(j+1),ab,j+1,B5,ys++[y],rfl,bk,au q1,au q2,au U,ae,((g.trans D.ck).trans' E ai (fun c I e=>av (u.of e))).trans g6,⟨h5.clock,by rw[aP];rfl⟩,W.grow E.ok g6 (fun c I e=>av (ID c I)),P5.1.go E.ok g6 (fun c l e hl=>av (P5.1.new l c hl)),P5.2,by rw[List.map_append,mp,lg,hb,<-yg];rfl⟩
 .have:j=bs.length:=ab
  subst this;rw[jT] at mp;simp[q1,q4,o];exact C _ _ B2 ys (au q2) (au U) g ⟨sX2,eC⟩ F xi mp
def vK(W:cr h0)(g0:ay aZ h0 h){name:ByteArray}{p r:Int}(hB:qg h0 B bs)(Z:∀b∈bs,GQ b)(V:bs.length<100000):bc FF 37 [.agg ⟨aC name p r B⟩] h (mQ name p r bs h):=by
 have ok:=g0.ok;have w:¬h.aw=h.aw+1:=ab
 have C:¬h.aw=h.aw+1+1:=ab
 have u:¬h.aw+1=h.aw+1+1:=ab
 refine bc.of Cd ?_;unfold tK;simp[aC,w,C,u,bg];refine aO.cut (fun h1=>ay aZ h h1/\(dg h1 h.aw (aC name p r B))/\(dg h1 (h.aw+1) [.string ⟨⟨[]⟩⟩,.int .i64 0,.int .i64 0,.slice none 0 0])/\(dg h1 (h.aw+1+1) (aC name p r cK))/\h.aw+3<=h1.aw) ?_ ?_;refine⟨(((ay.refl ok).new _ _).new _ _).var _ _,⟨0,by simp[w,C,u,aC]⟩,⟨0,by simp[w,C,u]⟩,⟨h.clock,by simp[bg,aC,cK]⟩,ae⟩;rintro h1⟨t,⟨sS,hS⟩,⟨sR,hR⟩,⟨sX,U⟩,l1⟩;have l0:=g0.aw;refine NY W t.ok (fun g=>(g0.trans t).trans' g ai (fun c I e=>ab)) hB Z V (S:=h.aw) (X:=h.aw+1+1) ab hS ab U ae ae ae ae ?_;intro e2 h2 H ys Q J o ⟨K,G⟩ F xi mp;have E:=o.get t.ok hR ab;simp[aC] at G;simp[Q,J,G,E];have D:=aY (off:=0) (vs:=[.string name,.int .i64 p,.int .i64 r,H.v]) o.ok E;simp at D;exact⟨(t.trans' o ai (fun c I e=>ab)).trans' D ai (fun c I e=>ab),H,ys,by simp[aC],(F.go o.ok D (fun c l e hl=>av (F.new l c hl))).cY ab,xi,mp⟩
def asF(h1:az)(xs:List Int)(es:List (Int×(Bool×Int)))(e:Env)(m:Nat)(e':Env)(h':az):Prop:=
 ∃(j:Nat) (L:SV),m=es.length-j/\j<=es.length/\aM ([10,11,12]++(List.range 25).map (· +54)) e e'/\bH e' 10=L.v/\bJ e' 11 j/\ay aZ h1 h'/\bu iS h1.aw h' L.v (fB (aR xs) (es.take j))
def QZ(f:Int->Int)(l:List (Int×(Bool×Int))):(fB f l).length<=l.length:=List.length_filterMap_le _ _
def UE(gi:cr h1){O E:SV}{xs:List Int}{es:List (Int×(Bool×Int))}(hO:bj encI h1 O.v xs)(hE:bj iS h1 E.v es)(xG:xs.length<1000000)(lh:es.length<1000000)(f1:bH e 1=O.v)(f9:bH e 9=E.v)(U:bH e 10=cK.v)(f11:bJ e 11 0)(C:∀J h' (L:SV),aM ([10,11,12]++(List.range 25).map (· +54)) e J->bH J 10=L.v->ay aZ h1 h'->bu iS h1.aw h' L.v (fB (aR xs) es)->QQ (.exit 4) J h'):aO FF (.loop kd) e h1 QQ:=by
 have w:E.l=es.length:=by obtain⟨a,cap,e,_⟩:=id hE;simp at e;exact e.2.1
 refine aO.loop (asF h1 xs es e) ?_ (n:=es.length) ⟨0,cK,rfl,ab,aM.refl _ _,U,f11,.refl gi,.inl ⟨rfl,rfl⟩⟩;rintro m J h'⟨j,L,rfl,hj,K,Z,D,g,o⟩;have bS:=g.ok;have q1:=K.at (t:=1) f1;have u:=K.at (t:=9) f9;unfold kd;by_cases H:j<es.length
 .have wj:=cg ((j:Int)+1) ab ab;obtain⟨x,hx⟩:=aV es j H;obtain⟨bE,offE,capE,G,_,_,cZ⟩:=(hE.ck gi g).read hx;have r0:=cZ 0 1 ag;have r1:=cZ 1 2 ag;simp[-ax] at r0 r1 G;simp at u;rw[G.1,w] at u;have I:=IU (f:=aR xs) hx;have kl:=QZ (aR xs) (es.take j);have tl:(es.take j).length<=j:=by simp;omega
  have gn:=g.aw;simp[q1,u,D,H,r0,-ax];refine bm.call (V:=fun v h2=>h2=h'/\v=.int .i64 (aR xs x.1)) (by simpa [q1] using uw (hO.ck gi g) xG x.1) ?_;rintro _ h2⟨eh,rfl⟩;rw[eh];by_cases Q:0<=aR xs x.1
  .rw[bM Q] at I;simp[Q,u,Z,D,H,r1,-ax];have W:=aN bS (iS.enc (aR xs x.1,x.2)) 0;have gK:=o.grow bS W ai;have zK:bj iS (aK h' (iS.enc (aR xs x.1,x.2)) 0) (.slice (some ⟨h'.aw,0,none⟩) 1 1) [(aR xs x.1,x.2)]:=dz (bz _ _ _);have n2:(aK h' (iS.enc (aR xs x.1,x.2)) 0).aw=h'.aw+1:=rfl;obtain⟨v',h3,ha,fM,g3,_⟩:=fx (bytes:=24) W.ok (z:=[.int .i64 0,.bool false,.int .i64 0]) rfl gK zK ab ag ab;obtain⟨L',rfl⟩:=bu.C5 fM;refine cR (aj ha) ?_;simp[D,wj];refine⟨es.length-(j+1),ab,j+1,L',rfl,H,?_,ae,ae,(g.trans W).trans' g3 ai (fun c hc e=>av (o.of e)),by rw[I];exact fM⟩
   exact aq
  .rw[bU Q,Bc] at I;simp[Q,D,wj];refine⟨es.length-(j+1),ab,j+1,L,rfl,H,?_,au Z,ae,g,by rw[I];exact o⟩
   exact aq
 .have:j=es.length:=ab
  subst this;rw[jT] at o;simp at u;rw[w] at u;simp[u,D];refine C _ _ L ?_ (au Z) g o
  exact aq
def wR(X:Nat):SV:=⟨some ⟨X,0,none⟩,1,1⟩
def aeX(o:fC h X (dZ.enc y) s):eo dZ h (wR X) [y]:=⟨rfl,.inr ⟨X,0,s,[],rfl,rfl,by simpa [Enc.flat] using o,.inl rfl⟩⟩
structure KR1(h0 h1:az)(n0 F X:Nat)(name:ByteArray)(p r:Int)(B O:SV)(bs:List GB)(bp:List Nat):Prop where
 g:ay aZ h0 h1
 ok:cr h0
 hB:qg h0 B bs
 E:EB bs
 hO:bj encI h0 O.v (nI bp)
 ol:bp.length<100000
 hF:dg h1 F (aC name p r B)
 lF:F<n0
 l0:h0.aw<=n0
 lX:n0<=X
def asm(h1:az)(n0 X:Nat)(y0:YB)(P:GP->GP)(e:Env)(m:Nat)(e':Env)(h':az):Prop:=
 ∃(j:Nat) (ps:List (GP×SV)),m=y0.ps.length-j/\j<=y0.ps.length/\aM ([8,9,10,11,12]++(List.range 60).map (· +36)) e e'/\bJ e' 8 j/\(dg h' X (dZ.enc y0))/\cM h1 h' n0 (wR X) [y0] (wR X) [{y0 with ps:=ps}]/\ps.length=y0.ps.length/\∀(i:Nat)(q o:GP×SV),y0.ps[i]?=some q->ps[i]?=some o->(i<j->o.1=P q.1)/\(j<=i->o=q)
def UG{bp:List Nat}(R:KR1 h0 h1 n0 F X name p r B O bs bp)(hn:n0<=h1.aw){b0:GB}(hk:bp[n]?=some k)(IB:bs[k]?=some b0)(u9:y0.g=b0)(W:FZ h1 n0 (wR X) [y0])(hX:fC h1 X (dZ.enc y0) sX)(f1:bH e 1=O.v)(f2:cm e 2 F)(f6:bJ e 6 n)(f7:cm e 7 X)(f8:bJ e 8 0)(C:∀e' h' ps,aM ([8,9,10,11,12]++(List.range 60).map (· +36)) e e'->(dg h' X (dZ.enc y0))->cM h1 h' n0 (wR X) [y0] (wR X) [{y0 with ps:=ps}]->ps.map (·.1)=b0.bD.map (mi (aR (nI bp)) bp.length (aX bs k))->QQ (.exit 2) e' h'):aO FF (.loop ke) e h1 QQ:=by
 have qW:=R.E.n50;have gi:=R.g.ok;have wg:y0.ps.length<100000:=by have:=R.E.pl b0 (cN IB);rw[<-u9] at this;simpa [YB.g] using this
 refine aO.loop (asm h1 n0 X y0 (mi (aR (nI bp)) bp.length (aX bs k)) e) ?_ (n:=y0.ps.length) ⟨0,y0.ps,rfl,ab,aM.refl _ _,f8,⟨sX,hX⟩,.refl W gi,rfl,fun i q o a b=>⟨fun h=>ab,fun _=>by rw[a] at b;cases b;rfl⟩⟩;rintro m e' h'⟨j,ps,rfl,hj,K,q8,⟨S7,w⟩,T,Z,H⟩;have g:=T.g;have G:=g.ok;have own:∀c,cx (wR X) [y0] c->n0<=c:=fun c ⟨l,e⟩=>W.new l c e;have g0:ay aZ h0 h':=R.g.trans' g ai (fun c hc e=>by have:=own c e;have:=R.l0;omega);have q1:=K.at (t:=1) f1;have q2:=K.at (t:=2) f2;have q6:=K.at (t:=6) f6;have q7:=K.at (t:=7) f7;obtain⟨sF,hF⟩:=R.hF;have nz:=g.get gi hF (fun e=>by have:=own F e;have:=R.lF;omega);have Y:=T.w.at (i:=0) rfl;have gY:=Y.P.len;simp at w nz gY;have CB:O.l=bp.length:=by obtain⟨a,cap,e,_⟩:=id R.hO;simp[nI] at e;exact e.2.1
 unfold ke;by_cases bk:j<y0.ps.length
 .have wj:=cg ((j:Int)+1) ab ab;obtain⟨q,hq⟩:=aV y0.ps j bk;obtain⟨o,U⟩:=aV ps j;have eq:=(H j q o hq U).2 (fh _);subst eq;have hg:b0.bD[j]?=some o.1:=by rw[<-u9];simp[YB.g,hq]
  have nC:=R.E.rows k b0 IB o.1 (cN hg);have x5:=Aa bs k;obtain⟨bP,cP,oP,sP,kB,DN,hjP,dQ,Ul,fu⟩:=Y.P.el U;have rP:=Ul 0 2 ag;simp[-ax] at rP;have RA:=Y.ps o (cN U);obtain⟨bO,ajV,ah3,SN,lO,oO,hrO⟩:=(R.hO.ck R.ok g0).read (Ja hk);have rO:=hrO 0 1 ag;simp[-ax] at rO SN;simp at q1;rw[SN.1,CB] at q1;rw[kB,gY,Z] at w;have KT:=(di.mp hk).1;have oX:=G.cn w;have oF:=G.cn nz;have YK:=G.cn DN;simp[q1,q2,q6,q7,q8,w,nz,aF w,aF nz,bk,KT,rP,rO,oX,oF,YK,oO,aQ,aC,-ax];have u:=bC G;have Tt:=T.ck u;have TZ:=u.get G w;have auq:=u.get G DN;have nt:(tick h').aw=h'.aw:=rfl;generalize tick h'=I at*;have Hi:=g0.trans u;refine cu.call (V:=fun v h'=>ay aZ I h'/\∃L:SV,v=L.v/\bu iS I.aw h' L.v (pQ bs k o.1.row)) (by simpa [aC] using Ih u.ok (name:=name) (p:=p) (r:=r) (dst:=o.1.dst) (R.hB.mono R.ok Hi) (RA.ck G u).ap5 ab (fun x hx=>av (R.E.two hx)) k ab) ?_;rintro _ h3⟨g3,L,rfl,fM⟩;simp;have lh:(pQ bs k o.1.row).length<1000000:=by unfold pQ;rw[List.length_zip];omega
  refine UE (O:=O) (E:=L) (xs:=nI bp) g3.ok (R.hO.ck R.ok (Hi.trans g3)) fM.sl (by simp[nI];have:=R.ol;omega) lh (by simp[q1,SN.1,CB]) ae (by simp[cK]) ae ?_;intro e4 h4 L4 K4 p10 D uW;have k1:bH e4 1=O.v:=K4.at (by simp[q1,SN.1,CB]);have k7:cm e4 7 X:=K4.at (ak q7);have k8:bH e4 8=.int .i64 j:=K4.at (ak q8);have g24:=g3.trans D;have kR:=g24.get u.ok TZ;have afk:=g24.get u.ok auq;have oK:(fB (aR (nI bp)) (pQ bs k o.1.row)).length<1000000:=Nat.lt_of_le_of_lt (QZ _ _) lh;simp at k1;rw[CB] at k1;have oX4:=D.ok.cn kR;have Vr:=D.ok.st _ _ _ _ _ kR;simp[k1,k7,k8,p10,kR,aF kR,oX4,aQ,-ax];have J:=bC D.ok;have oJ:=J.get D.ok kR;have aup:=J.get D.ok afk;have qq:=uW.grow D.ok J ai;have n4:(tick h4).aw=h4.aw:=rfl;have c4:(tick h4).clock=h4.clock+1:=rfl;generalize tick h4=h5 at*;refine cu.call (V:=fun v h'=>ay aZ h5 h'/\∃L:SV,v=L.v/\bu cC h5.aw h' L.v (iC (fB (aR (nI bp)) (pQ bs k o.1.row)) bp.length)) (aj (MR J.ok qq.sl oK bp.length R.ol)) ?_;rintro _ h6⟨g6,A',rfl,uX⟩;have po:=g6.get J.ok oJ;have anC:=g6.get J.ok aup;have wa:=dQ 1 1 ag;simp at wa;simp[po,Vr,bk,anC,wa,k8,wj];have g7:=aY (off:=j*2+1) (vs:=[A'.v]) g6.ok anC;simp at g7;have XT:=fu (mi (aR (nI bp)) bp.length (aX bs k) o.1,A') 1 [A'.v] ae (by simp[bg,mi]) (put h6 bP (j*2+1) cP [A'.v] oP) ⟨_,aP _ _ _ _ _ _⟩;simp at XT;have nXP:X≠bP:=fun e=>by have:=T.w.tf none (some (0,.P)) X rfl (by rw[e];exact cy kB);cases this
  have LZ:=g7.get g6.ok po nXP;have Ge:=(((u.trans g3).trans D).trans J).trans g6;have l6:=(((u.trans g3).trans D).trans J).aw;have T7:=T.row (j:=j) hn (i:=0) rfl U (p':=(mi (aR (nI bp)) bp.length (aX bs k) o.1,A')) (Ge.ck.trans (g7.cY fun c _ e=>.inl ⟨.P,.inl rfl,by rw[e];exact cy kB⟩)) XT ((dI uX).go g6.ok g7 fun c hc e=>by have:=uX.of (iE (dI uX) e);have:=G.wf _ _ DN;omega) (fun c e=>.inr (av (uX.of (iE (dI uX) e))))
  generalize put h6 bP _ _ _ _=h7 at*;refine⟨y0.ps.length-(j+1),ab,j+1,ps.set j (mi (aR (nI bp)) bp.length (aX bs k) o.1,A'),rfl,bk,?_,ae,⟨S7,by have v8:y0.P.a=some ⟨bP,0,none⟩:=kB;have Q:y0.P.l=y0.ps.length:=gY.trans Z;simpa [v8,Q] using LZ⟩,T7,au Z,fun i a c h1 I=>?_⟩
  .repeat (refine aM.set ?_)
   refine aM.trans ?_ (K4.cY)
   exact aq
  rw[fL] at I;by_cases e:j=i;subst e;rw[bM rfl,bM ab] at I;cases I;rw[hq] at h1;cases h1;exact⟨fun _=>rfl,fun h=>ab⟩;rw[bU e] at I;obtain⟨a1,a2⟩:=H i a c h1 I;exact⟨fun h=>a1 ab,fun h=>a2 ab⟩
 .have:j=y0.ps.length:=ab
  subst this;rw[gY,Z] at w;simp[q7,q8,w,aF w,-ax];refine C _ _ ps ?_ ⟨S7,by have Q:y0.P.l=y0.ps.length:=gY.trans Z;simpa [Q] using w⟩ T (Cy fun i=>?_)
  .exact aq
  rw[<-u9,js,js];simp only[YB.g,js];rcases Gf i y0.ps.length with hi|hi;obtain⟨q,hq⟩:=aV y0.ps i hi;obtain⟨o,U⟩:=aV ps i (by rw[Z];exact hi);rw[hq,U];simp only[Cx];rw[(H i q o hq U).1 hi];rw[wY hi,wY (by rw[Z];exact hi)];rfl
def asl(h1:az)(n0 X:Nat)(y0:YB)(f:Int->Int)(e:Env)(m:Nat)(e':Env)(h':az):Prop:=
 ∃(j:Nat) (to:List Int),m=y0.to.length-j/\j<=y0.to.length/\aM ([13]++(List.range 21).map (· +88)) e e'/\bJ e' 13 j/\(dg h' X (dZ.enc y0))/\cM h1 h' n0 (wR X) [y0] (wR X) [{y0 with to:=to}]/\to=(y0.to.take j).map f++y0.to.drop j
def Ol{xs:List Int}(dt:cr h0)(yP:ay aZ h0 h1)(l0:h0.aw<=n0)(hn:n0<=h1.aw)(hO:bj encI h0 O.v xs)(xG:xs.length<1000000)(CD:y0.to.length<1000000)(W:FZ h1 n0 (wR X) [y0])(hX:fC h1 X (dZ.enc y0) sX)(f1:bH e 1=O.v)(f7:cm e 7 X)(f13:bJ e 13 0)(C:∀e' h',aM ([13]++(List.range 21).map (· +88)) e e'->(dg h' X (dZ.enc y0))->cM h1 h' n0 (wR X) [y0] (wR X) [{y0 with to:=y0.to.map (aR xs)}]->QQ (.exit 6) e' h'):aO FF (.loop kc) e h1 QQ:=by
 have gi:=yP.ok;refine aO.loop (asl h1 n0 X y0 (aR xs) e) ?_ (n:=y0.to.length) ⟨0,y0.to,rfl,ab,aM.refl _ _,f13,⟨sX,hX⟩,.refl W gi,ae⟩;rintro m e' h'⟨j,to,rfl,hj,K,Hd,⟨S7,o⟩,T,I⟩;have g:=T.g;have E:=g.ok;have own:∀c,cx (wR X) [y0] c->n0<=c:=fun c ⟨l,e⟩=>W.new l c e;have g0:ay aZ h0 h':=yP.trans' g ai (fun c hc e=>av (own c e));have q1:=K.at (t:=1) f1;have q7:=K.at (t:=7) f7;have Y:=T.w.at (i:=0) rfl;have Q:y0.T.l=to.length:=Y.T.len;have u:to.length=y0.to.length:=by rw[I];simp;omega
 simp at o;have CB:O.l=xs.length:=by obtain⟨a,cap,e,_⟩:=id hO;simp at e;exact e.2.1
 unfold kc;by_cases G:j<y0.to.length
 .have wj:=cg ((j:Int)+1) ab ab;obtain⟨t,ht⟩:=aV y0.to j G;have IL:to[j]?=some t:=by rw[I,Ke (by simp;omega)];simp[Nat.min_eq_left (Nat.le_of_lt G),ht]
  obtain⟨U,cT,oT,sT,Bh,w,hjT,dQ,Z,fu⟩:=Y.T.el IL;have J:y0.T.a=some ⟨U,0,none⟩:=Bh;have rT:=Z 0 1 ag;simp[-ax] at rT;rw[J,Q,u] at o;have oX:=E.cn o;have oT':=E.cn w;have Vr:=E.st _ _ _ _ _ o;have stT:=E.st _ _ _ _ _ w;simp at q1;rw[CB] at q1;simp[q1,q7,Hd,o,aF o,G,rT,oX,oT',aQ,-ax];have D:=bC E;have Tt:=T.ck D;have TZ:=D.get E o;have H:=D.get E w;have ct:(tick h').clock=h'.clock+1:=rfl;generalize tick h'=h2 at*;refine cu.call (V:=fun v h3=>h3=h2/\v=.int .i64 (aR xs t)) (by simpa [CB] using uw (hO.ck dt (g0.trans D)) xG t) ?_;rintro _ h3⟨eh,rfl⟩;rw[eh];have wa:=dQ 0 1 ag;simp at wa;simp[TZ,Vr,G,H,wa,Hd,wj];have g7:=aY (off:=j) (vs:=[.int .i64 (aR xs t)]) D.ok H;have hT7:=fu (aR xs t) 0 [.int .i64 (aR xs t)] ae (by simp[bg]) (put h2 U j cT [.int .i64 (aR xs t)] oT) ⟨h2.clock,ae⟩;have nXT:X≠U:=fun e=>by have:=T.w.tf none (some (0,.T)) X rfl (by rw[e];exact cy Bh);cases this
  have LZ:=g7.get D.ok TZ nXT;have T7:=T.to (to':=to.set j (aR xs t)) hn (i:=0) rfl (D.ck.trans (g7.cY fun c _ e=>.inl ⟨.T,rfl,by rw[e];exact cy Bh⟩)) hT7;generalize put h2 U _ _ _ _=h7 at*;refine⟨y0.to.length-(j+1),ab,j+1,to.set j (aR xs t),rfl,G,?_,ae,⟨S7,by have G2:y0.T.l=y0.to.length:=Q.trans u;simpa [J,G2] using LZ⟩,T7,?_⟩
  .exact aq
  rw[I,lg,ht];rw[List.set_append_right _ _ (by simp;omega)];simp[Nat.min_eq_left (Nat.le_of_lt G)];rw[List.drop_eq_getElem_cons G,List.set_cons_zero]
 .have:j=y0.to.length:=ab
  subst this;rw[jT,List.drop_length,Bc] at I;rw[Q,u] at o;simp[q7,Hd,o,aF o,-ax];refine C _ _ ?_ ⟨S7,by have G2:y0.T.l=y0.to.length:=Q.trans u;simpa [G2] using o⟩ (by rw[<-I];exact T)
  exact aq
def ah1(E:fC h X (dZ.enc y) s)(z:BZ h y)(D:yZ False y.loc)(C:∀l c,y.loc l=some c->X<c):FZ h X (wR X) [y]/\wI (wR X) [y]:=by
 have key:∀(o:Option (Nat×Lo))(c:Nat),eV (wR X) [y] o=some c->(o=none/\c=X)\/∃l,o=some (0,l)/\y.loc l=some c:=fun o c e=>by
  match o with
  |none=>exact .inl ⟨rfl,by cases e;rfl⟩
  |some (i,l)=>
   obtain⟨q,h1,t⟩:=Ev.1 e;have:i=0:=by have:=(di.mp h1).1;simpa using this
   subst this;cases h1;exact .inr ⟨l,rfl,t⟩
 have inj:wI (wR X) [y]:=fun a b c h1 t=>by rcases key a c h1 with⟨p,u⟩|⟨l,p,u⟩<;>rcases key b c t with⟨q,w⟩|⟨k,q,w⟩;exact .inl (p.trans q.symm);have:=C k c w;omega;have:=C l c u;omega;exact(D l k c u w).imp (fun e=>by rw[p,q,e]) fun e=>e.1.elim
 refine⟨⟨aeX E,fun x G=>by cases List.mem_singleton.1 G;exact z,fun a b c h1 t=>(inj a b c h1 t).imp id fun e=>e.1.elim,fun o c e=>?_⟩,inj⟩;rcases key o c e with⟨_,p⟩|⟨l,_,p⟩;omega;have:=C l c p;omega
def asn(h1:az)(F R G:Nat)(O:SV)(name:ByteArray)(p r:Int)(bs:List GB)(bp:List Nat)(m:Nat)(e:Env)(h':az):Prop:=
 ∃(n:Nat) (B':SV) (ys:List YB),m=bp.length-n/\n<=bp.length/\bH e 1=O.v/\cm e 2 F/\cm e 4 R/\cm e 5 G/\bJ e 6 n/\ay (· =G) h1 h'/\(dg h' G (aC name p r B'))/\bu dZ h1.aw h' B'.v ys/\FZ h' h1.aw B' ys/\wI B' ys/\ys.map YB.g=(bh bs bp).take n
def acA{bp:List Nat}{x:GB}(o:bp[n]?=some k)(t:bs[k]?=some x):(bh bs bp)[n]?=some (dY (aR (nI bp)) bp.length (aX bs k) x):=by unfold bh;rw[js,o];simp only[Cx];rw[t];rfl
def Q0(dt:cr h0)(gi:cr h1){F R G:Nat}(g0a:∀ {h':az},ay (· =G) h1 h'->ay aZ h0 h'){bp:List Nat}(hB:qg h0 B bs)(E:EB bs)(Z:∀b∈bs,GQ b)(hO:bj encI h0 O.v (nI bp))(ol:bp.length<100000)(olt:∀k∈bp,k<bs.length){sF sG:Nat}(lG:G<h1.aw)(hF:fC h1 F (aC name p r B) sF)(nFG:F≠G)(hG:fC h1 G (aC name p r cK) sG)(l01:h0.aw<=h1.aw)(f1:bH e 1=O.v)(f2:cm e 2 F)(f4:cm e 4 R)(f5:cm e 5 G)(f6:bJ e 6 0)(C:∀e' h' B' ys,cm e' 4 R->cm e' 5 G->ay (· =G) h1 h'->(dg h' G (aC name p r B'))->FZ h' h1.aw B' ys->wI B' ys->ys.map YB.g=bh bs bp->QQ (.exit 0) e' h'):aO FF (.loop kg) e h1 QQ:=by
 have dT:=aD.len hB;have CB:O.l=bp.length:=by obtain⟨a,cap,e,_⟩:=id hO;simp[nI] at e;exact e.2.1
 have F0:=FZ.zero (h:=h1) (fh h1.aw);have kl:(bh bs bp).length=bp.length:=by simp[bh]
 refine aO.loop (asn h1 F R G O name p r bs bp) ?_ (n:=bp.length) ⟨0,cK,[],rfl,ab,f1,f2,f4,f5,f6,.refl gi,⟨sG,hG⟩,.inl ⟨rfl,rfl⟩,F0.1,F0.2,rfl⟩;rintro m e' h'⟨n,B2,ys,rfl,hn,J,q2,q4,q5,q6,g,⟨sG2,Wi⟩,I,W,xi,mp⟩;have u:=g.ok;have g0:ay aZ h0 h':=g0a g;have jz:=g.get gi hF nFG;have uT:=jz;have hG3:=Wi;simp[aC] at uT hG3;unfold kg;by_cases KT:n<bp.length
 .have wn:=cg ((n:Int)+1) ab ab;obtain⟨k,hk⟩:=aV bp n KT;have oK:=olt k (cN hk);obtain⟨b,hb⟩:=aV bs k oK;have z:=Z b (cN hb);obtain⟨bB,YO,cB,fp,_,_,⟨P0,L0,T0,rfl,sP,sL,sT⟩,oB,hrdB⟩:=aD.later dt hB hb;have rd:=hrdB h' g0 0 6 ag;simp[-ax] at rd;obtain⟨bO,ajV,ah3,SN,lO,oO,hrO⟩:=(hO.ck dt g0).read (Ja hk);have rO:=hrO 0 1 ag;simp[-ax] at rO SN;simp at J;rw[SN.1,CB] at J;rw[fp,dT] at uT;have oF:=u.cn uT;have oB':=g0.cn oB;have ln:=g.aw;simp[J,q2,q4,q5,q6,uT,aF uT,KT,oK,rO,rd,oF,oB',oO,aQ,bw,-ax];have gt:=(bC u).trans (aN (bC u).ok [.slice none 0 0,.slice none 0 0,.int .i64 0,.bool false,.int .i64 0,.slice none 0 0] 0);have TZ:=bz (tick h') [.slice none 0 0,.slice none 0 0,.int .i64 0,.bool false,.int .i64 0,.slice none 0 0] 0;have nt:(aK (tick h') [.slice none 0 0,.slice none 0 0,.int .i64 0,.bool false,.int .i64 0,.slice none 0 0] 0).aw=h'.aw+1:=rfl;have ntk:(tick h').aw=h'.aw:=rfl;rw[ntk] at TZ;generalize aK (tick h') _ 0=h2 at*;refine cu.call (V:=RBZ b h2) (by simpa [df] using Eb dt (g0.trans gt) (P0:=P0) (L0:=L0) (T0:=T0) ⟨sP,sL,sT,z.lp,z.ll,z.lr,z.la,z.lt⟩) ?_;rintro _ h3⟨g3,y,rfl,Y3,yg,iy,ny⟩;have eD:=g3.get gt.ok TZ;simp[eD];have g4:=aY (off:=0) (vs:=dZ.enc y) g3.ok eD;have kR:(put h3 h'.aw 0 [.slice none 0 0,.slice none 0 0,.int .i64 0,.bool false,.int .i64 0,.slice none 0 0] (dZ.enc y) 0).tr.get h'.aw=some (.bZ (dZ.enc y) false 0 h3.clock):=by rw[aP];rfl
  simp only[DF,SV.yJ] at g4 kR;have l3:=g3.aw;have lyX:∀l c,y.loc l=some c->h'.aw<c:=fun l c e=>av (ny l c e)
  have Y4:=Y3.go g3.ok g4 (fun c l e h=>av (lyX l c h));generalize hh4:put h3 h'.aw 0 _ _ 0=h4 at*;have H:ay aZ h' h4:=(gt.trans g3).trans' g4 ai (fun c D e=>ab);have l4:=g4.aw;obtain⟨W4,x4⟩:=ah1 (aj kR) Y4 iy lyX;have hlf:F<h'.aw:=u.wf _ _ jz;have hlG:G<h'.aw:=u.wf _ _ Wi;have BH:=H.get u jz;have KR:KR1 h0 h4 h'.aw F h'.aw name p r B O bs bp:=⟨g0.trans H,dt,hB,E,hO,ol,⟨sF,BH⟩,hlf,ab,fh _⟩;refine UG KR ab hk hb yg W4 (aj kR) (by simp[J,SN.1,CB]) (au q2) (au q6) ae ae ?_;intro e5 h5 ps5 K5 ⟨s5,oJ⟩ T5 M5;have a1:bH e5 1=O.v:=K5.at (by simp[J,SN.1,CB]);have a2:=K5.at (t:=2) (ak q2);have a4:=K5.at (t:=4) (ak q4);have a5:=K5.at (t:=5) (ak q5);have a6:=K5.at (t:=6) (ak q6);have a7:cm e5 7 h'.aw:=K5.at ae;simp;have own:∀c,cx (wR h'.aw) [y] c->h'.aw<=c:=fun c ⟨l,e⟩=>W4.new l c e;have DJ:ay aZ h' h5:=H.trans' T5.g ai (fun c D e=>av (own c e));have etl:y.to=b.to:=by rw[<-yg];rfl
  have tl:y.to.length<1000000:=by rw[etl];have:=z.lt;omega
  refine Ol (y0:= {y with ps:=ps5}) dt (g0.trans DJ) (n0:=h'.aw) (X:=h'.aw) ab DJ.aw hO (by simp[nI];omega) tl T5.w oJ (au a1) (au a7) ae ?_;intro e6 K K6 ⟨s6,po⟩ T6;have b1:=K6.at (t:=1) (ak a1);have b2:=K6.at (t:=2) (ak a2);have b4:=K6.at (t:=4) (ak a4);have b5:=K6.at (t:=5) (ak a5);have b6:=K6.at (t:=6) (ak a6);have b7:=K6.at (t:=7) (ak a7);have T46:=T5.trans T6;have Q:ay aZ h' K:=H.trans' T46.g ai (fun c D e=>av (own c e));have hG6:=Q.get u hG3;simp at po;simp[b5,b7,hG6,po];obtain⟨o,U⟩:∃o:YB,o= {y with ps:=ps5,to:=y.to.map (aR (nI bp))} :=⟨_,rfl⟩;have e3:dZ.enc o=dZ.enc y:=by rw[U];rfl
  have T3:cM h4 K h'.aw (wR h'.aw) [y] (wR h'.aw) [o]:=by rw[U];exact T46
  have g3':o.g=dY (aR (nI bp)) bp.length (aX bs k) b:=by rw[U];simp only[YB.g,dY,M5];rw[<-yg];rfl
  have g7:=aN Q.ok (dZ.enc o) 0;have TL:=Q.trans g7;have aeQ:=I.grow u TL ai;have zK:bj dZ (aK K (dZ.enc o) 0) (.slice (some ⟨K.aw,0,none⟩) 1 1) [o]:=dz (bz _ _ _);have n2:(aK K (dZ.enc o) 0).aw=K.aw+1:=rfl;have l6:=Q.aw;have yU:ys.length=n:=by have:=congrArg List.length mp;simp at this;omega
  obtain⟨v',h8,hb8,w,g8,hd8⟩:=fx (bytes:=96) g7.ok (z:=[.slice none 0 0,.slice none 0 0,.int .i64 0,.bool false,.int .i64 0,.slice none 0 0]) rfl aeQ zK ab ag ab;obtain⟨B8,rfl⟩:=bu.C5 w;rw[e3] at hb8;refine cR (aj hb8) ?_;have nBG:¬bt B2.v G:=fun e=>av (I.of e)
  have hG8:=g8.get g7.ok (g7.get Q.ok hG6) nBG;simp[hG8,b5,b6,wn];have g9:=aY (off:=3) (vs:=[B8.v]) g8.ok hG8;simp at g9;have Z6:=T3.w.at (i:=0) rfl;have nl:∀l c,o.loc l=some c->h'.aw<=c/\c<K.aw:=fun l c e=>⟨(T3.s c ⟨some (0,l),e⟩).elim (own c) ab,Z6.lt Q.ok e⟩;have Z8:=(Z6.ck Q.ok g7).go g7.ok g8 (fun c l D e=>by have:=nl l c e;have:=(dI I).lt u (dq (A:=B2) D);omega);have P5:=W.push xi (m:=K.aw) u (TL.ck.trans g8) (fun c D=>.inl (dq D)) ln (dI w) Z8 ((T3.x x4).r (i:=0) rfl) nl (fun c e=>av (hd8 c (iE (dI w) e)));refine⟨bp.length-(n+1),ab,n+1,B8,ys++[o],rfl,KT,au b1,au b2,au b4,au b5,ae,((g.trans TL.ck).trans' g8 ai (fun c D e=>av (I.of e))).trans g9,⟨h8.clock,by rw[aP];rfl⟩,w.grow g8.ok g9 (fun c D e=>av (hd8 c D)),P5.1.go g8.ok g9 (fun c l e hl=>av (P5.1.new l c hl)),P5.2,by rw[List.map_append,mp,lg,acA hk hb,<-g3'];rfl⟩
 .have:n=bp.length:=ab
  subst this;rw[pg ab] at mp;simp at J;rw[CB] at J;simp[J,q6];exact C _ _ B2 ys (au q4) (au q5) g ⟨sG2,Wi⟩ W xi mp
def CM(dt:cr h0)(g0:ay aZ h0 h){name:ByteArray}{p r:Int}{bp:List Nat}(hB:qg h0 B bs)(E:EB bs)(Z:∀b∈bs,GQ b)(hO:bj encI h0 O.v (nI bp))(ol:bp.length<100000)(w:∀k∈bp,k<bs.length):bc FF 38 [.agg ⟨aC name p r B⟩,O.v] h (mQ name p r (bh bs bp) h):=by
 have ok:=g0.ok;have C:¬h.aw=h.aw+1:=ab
 have D:¬h.aw=h.aw+1+1:=ab
 have u:¬h.aw+1=h.aw+1+1:=ab
 refine bc.of Ce ?_;unfold tL;simp[aC,C,D,u,bg];refine aO.cut (fun h1=>ay aZ h h1/\(dg h1 h.aw (aC name p r B))/\(dg h1 (h.aw+1) [.string ⟨⟨[]⟩⟩,.int .i64 0,.int .i64 0,.slice none 0 0])/\(dg h1 (h.aw+1+1) (aC name p r cK))/\h.aw+3<=h1.aw) ?_ ?_;refine⟨(((ay.refl ok).new _ _).new _ _).var _ _,⟨0,by simp[C,D,u,aC]⟩,⟨0,by simp[C,D,u]⟩,⟨h.clock,by simp[bg,aC,cK]⟩,ae⟩;rintro h1⟨t,⟨sS,hS⟩,⟨sR,hR⟩,⟨sX,hX⟩,l1⟩;have l0:=g0.aw;refine Q0 dt t.ok (F:=h.aw) (R:=h.aw+1) (G:=h.aw+1+1) (fun g=>(g0.trans t).trans' g ai (fun c Q e=>ab)) hB E Z hO ol w ab hS ab hX ab ae ae ae ae ae ?_;intro e2 h2 K ys V U o ⟨W,J⟩ F xi mp;have I:=o.get t.ok hR ab;simp[aC] at J;simp[V,U,J,I];have H:=aY (off:=0) (vs:=[.string name,.int .i64 p,.int .i64 r,K.v]) o.ok I;simp at H;exact⟨(t.trans' o ai (fun c Q e=>ab)).trans' H ai (fun c Q e=>ab),K,ys,by simp[aC],(F.go o.ok H (fun c l e hl=>av (F.new l c hl))).cY ab,xi,mp⟩
structure RN(h0 h1:az)(n0:Nat)(B:SV)(ys:List YB)(L:SV)(xs:List Int)(i:Nat)(y:YB)(X:Nat):Prop where
 dt:cr h0
 g:ay aZ h0 h1
 l0:h0.aw<=n0
 hn:n0<=h1.aw
 hL:bj encI h0 L.v xs
 xl:xs.length<1000000
 W:FZ h1 n0 B ys
 xi:wI B ys
 hy:ys[i]?=some y
 hX:dg h1 X (dZ.enc y)
 oX:¬cx B ys X
section
variable{h0 h1 h':az}{n0:Nat}{B:SV}{ys zs:List YB}{L:SV}{xs:List Int}{i:Nat}{y y':YB}{X:Nat}
def RN.g0(r:RN h0 h1 n0 B ys L xs i y X)(T:cM h1 h' n0 B ys B zs):ay aZ h0 h':=r.g.trans' T.g ai (fun c o ⟨l,e⟩=>by have:=r.W.new l c e;have:=r.l0;omega)
def RN.aw(r:RN h0 h1 n0 B ys L xs i y X)(T:cM h1 h' n0 B ys B (ys.set i y'))(e:dZ.enc y'=dZ.enc y):RN h0 h' n0 B (ys.set i y') L xs i y' X:=by obtain⟨s,o⟩:=r.hX;have u:=r.g.ok.wf _ _ o;have t:=(di.mp r.hy).1;exact⟨r.dt,r.g0 T,r.l0,by have:=r.hn;have:=T.g.aw;omega,r.hL,r.xl,T.w,T.x r.xi,by rw[fL,bM rfl,bM t],⟨s,by rw[e];exact T.g.get r.g.ok o r.oX⟩,fun h=>(T.s _ h).elim r.oX ab⟩
def asK(h1:az)(n0:Nat)(B:SV)(ys:List YB)(i j:Nat)(y:YB)(q:GP×SV)(f:Bool×Int->Bool×Int)(e:Env)(m:Nat)(e':Env)(h':az):Prop:=
 ∃(k:Nat) (row:List (Bool×Int)),m=q.1.row.length-k/\k<=q.1.row.length/\aM ([9]++(List.range 30).map (· +46)) e e'/\bJ e' 9 k/\cM h1 h' n0 B ys B (ys.set i {y with ps:=y.ps.set j (⟨q.1.dst,row⟩,q.2)})/\row=(q.1.row.take k).map f++q.1.row.drop k
def nr{xs:List α}{x:α}(h:xs[i]?=some x):xs.set i x=xs:=by obtain⟨o,e⟩:=di.mp h;rw[<-e];exact List.set_getElem_self o
def xq{f:α->α}{l row:List α}{v:α}(t:l[k]?=some v)(e:row=(l.take k).map f++l.drop k):row[k]?=some v/\row.set k (f v)=(l.take (k+1)).map f++l.drop (k+1):=by have o:=(di.mp t).1;subst e;refine⟨by rw[Ke (by simp;omega)];simp[Nat.min_eq_left (Nat.le_of_lt o),t],?_⟩;rw[lg,t,List.set_append_right _ _ (by simp;omega)];simp[Nat.min_eq_left (Nat.le_of_lt o)];rw[List.drop_eq_getElem_cons o,List.set_cons_zero]
def af8(r:RN h0 h1 n0 B ys L xs i y X){q:GP×SV}(hq:y.ps[j]?=some q)(yb:q.1.row.length<1000000)(f1:bH e 1=L.v)(f7:cm e 7 X)(f8:bJ e 8 j)(f9:bJ e 9 0)(C:∀e' h',aM ([9]++(List.range 30).map (· +46)) e e'->cM h1 h' n0 B ys B (ys.set i {y with ps:=y.ps.set j (⟨q.1.dst,q.1.row.map (bq xs)⟩,q.2)})->QQ (.exit 4) e' h'):aO FF (.loop iN) e h1 QQ:=by
 have gi:=r.g.ok;have hi:=(di.mp r.hy).1;have W:=(di.mp hq).1;have jt:L.l=xs.length:=by obtain⟨a,cap,e,_⟩:=id r.hL;simp at e;exact e.2.1
 have e1:y.ps.set j ((⟨q.1.dst,q.1.row⟩:GP),q.2)=y.ps:=nr (x:=q) hq;have e2:ys.set i {y with ps:=y.ps.set j ((⟨q.1.dst,q.1.row⟩:GP),q.2)} =ys:=by rw[e1];exact nr r.hy
 refine aO.loop (asK h1 n0 B ys i j y q (bq xs) e) ?_ (n:=q.1.row.length) ⟨0,q.1.row,rfl,ab,aM.refl _ _,f9,by rw[e2];exact .refl r.W gi,ae⟩;rintro m e' h'⟨k,row,rfl,hk,K,q9,T,Z⟩;have o:=T.g.ok;have g0:=r.g0 T;have q1:=K.at (t:=1) f1;have q7:=K.at (t:=7) f7;have q8:=K.at (t:=8) f8;obtain⟨sX,hX⟩:=r.hX;have D:=T.g.get gi hX r.oX;have QP:(ys.set i {y with ps:=y.ps.set j (⟨q.1.dst,row⟩,q.2)})[i]?=some {y with ps:=y.ps.set j (⟨q.1.dst,row⟩,q.2)} :=by rw[fL,bM rfl,bM hi]
 have Y:=T.w.at QP;have Q:(y.ps.set j ((⟨q.1.dst,row⟩:GP),q.2))[j]?=some (⟨q.1.dst,row⟩,q.2):=by rw[fL,bM rfl,bM W]
 have gY:y.P.l=y.ps.length:=by have:=Y.P.len;simpa using this
 have A:eo cC h' q.2 row:=Y.ps _ (cN Q);have ni:=A.len;have QL:row.length=q.1.row.length:=by rw[Z];simp;omega
 obtain⟨bP,cP,oP,sP,kB,DN,_,_,Ul,_⟩:=Y.P.el Q;have v8:y.P.a=some ⟨bP,0,none⟩:=kB;have J:=Ul 1 1 ag;simp[-ax] at J;simp at D;rw[v8,gY] at D;have oX:=o.cn D;have YK:=o.cn DN;have Vr:=o.st _ _ _ _ _ D;have stP:=o.st _ _ _ _ _ DN;unfold iN;by_cases oK:k<q.1.row.length
 .have wk:=cg ((k:Int)+1) ab ab;obtain⟨v,hv⟩:=aV q.1.row k oK;obtain⟨Kk,II⟩:=xq (f:=bq xs) hv Z;obtain⟨bA,cA,oA,sA,Bf,U,hjA,dQ,hrA,fu⟩:=A.el Kk;have rA:=hrA 0 2 ag;simp[-ax] at rA;rw[Bf,ni,QL] at J;have oA':=o.cn U;simp at q1;rw[jt] at q1;simp[q1,q7,q8,q9,D,aF D,W,oK,J,rA,oX,YK,oA',aQ,-ax];have w:=bC o;have Tt:=T.ck w;have TZ:=w.get o D;have hPt:=w.get o DN;have hAt:=w.get o U;have ct:(tick h').clock=h'.clock+1:=rfl;generalize tick h'=h2 at*;refine cu.call (V:=fun u H=>ay aZ h2 H/\u=.agg ⟨[.bool (bq xs v).1,.int .i64 (bq xs v).2]⟩) (by simpa [jt] using uq w.ok (r.hL.ck r.dt (g0.trans w)) r.xl v) ?_;rintro _ H⟨E,rfl⟩;have eD:=E.get w.ok TZ;have hP3:=E.get w.ok hPt;have Hk:=E.get w.ok hAt;have wa:=dQ 0 2 ag;simp at wa;simp[eD,hP3,Vr,stP,W,oK,Hk,wa,q9,wk];have g7:=aY (off:=k*2) (vs:=cC.enc (bq xs v)) E.ok Hk;have I:=fu (bq xs v) 0 (cC.enc (bq xs v)) ae (by simp[bg]) (put H bA (k*2) cA (cC.enc (bq xs v)) oA) ⟨H.clock,ae⟩;have eAP:bA≠bP:=fun e=>by have:=(T.w.IP QP .P (.R j) bP (cy kB) (by rw[YB.jN Q,<-e];exact cy Bf));cases this
  simp only[wW] at g7 I;have G:=w.trans E;have XT:eo iG (put H bA (k*2) cA [.bool (bq xs v).1,.int .i64 (bq xs v).2] oA) y.P ((y.ps.set j ((⟨q.1.dst,row⟩:GP),q.2)).set j (⟨q.1.dst,row.set k (bq xs v)⟩,q.2)):=((Y.P.ck o G).go E.ok g7 fun c hc e=>by rw[cy kB] at e;cases e;exact eAP hc.symm).aa6 (by rw[xF,List.map_set,List.map_set];rfl)
  have T7:=T.row (j:=j) r.hn QP Q (p':=((⟨q.1.dst,row.set k (bq xs v)⟩:GP),q.2)) (G.ck.trans (g7.cY fun c _ e=>.inl ⟨.R j,.inr rfl,by rw[YB.jN Q,e];exact cy Bf⟩)) XT I (fun c e=>.inl e);rw[xF,xF] at T7;refine⟨q.1.row.length-(k+1),ab,k+1,row.set k (bq xs v),rfl,oK,?_,ae,T7,II⟩
  exact aq
 .have:k=q.1.row.length:=ab
  subst this;rw[jT,List.drop_length,Bc] at Z;rw[ni,QL] at J;simp[q1,q7,q8,q9,D,aF D,W,J,-ax];refine C _ _ ?_ (by rw[<-Z];exact T)
  exact aq
end
section
variable{h0 h1 h':az}{n0:Nat}{B:SV}{ys zs:List YB}{L:SV}{xs:List Int}{i:Nat}{y y':YB}{X:Nat}
def asJ(h1:az)(n0:Nat)(B:SV)(ys:List YB)(i j:Nat)(y:YB)(q:GI×SV)(f:Bool×Int->Bool×Int)(e:Env)(m:Nat)(e':Env)(h':az):Prop:=
 ∃(k:Nat) (row:List (Bool×Int)),m=q.1.args.length-k/\k<=q.1.args.length/\aM ([11]++(List.range 30).map (· +109)) e e'/\bJ e' 11 k/\cM h1 h' n0 B ys B (ys.set i { y with ls:=y.ls.set j ({q.1 with args:=row},q.2) })/\row=(q.1.args.take k).map f++q.1.args.drop k
def ado(r:RN h0 h1 n0 B ys L xs i y X)(hq:y.ls[j]?=some q)(yb:q.1.args.length<1000000)(f1:bH e 1=L.v)(f7:cm e 7 X)(f8:bJ e 10 j)(f9:bJ e 11 0)(C:∀e' h',aM ([11]++(List.range 30).map (· +109)) e e'->cM h1 h' n0 B ys B (ys.set i { y with ls:=y.ls.set j ({q.1 with args:=q.1.args.map (bq xs)},q.2) })->QQ (.exit 8) e' h'):aO FF (.loop iL) e h1 QQ:=by
 have gi:=r.g.ok;have hi:=(di.mp r.hy).1;have W:=(di.mp hq).1;have jt:L.l=xs.length:=by obtain⟨a,cap,e,_⟩:=id r.hL;simp at e;exact e.2.1
 have e1:y.ls.set j (({q.1 with args:=q.1.args} :GI),q.2)=y.ls:=nr (x:=q) hq;have e2:ys.set i { y with ls:=y.ls.set j (({q.1 with args:=q.1.args} :GI),q.2) } =ys:=by rw[e1];exact nr r.hy
 refine aO.loop (asJ h1 n0 B ys i j y q (bq xs) e) ?_ (n:=q.1.args.length) ⟨0,q.1.args,rfl,ab,aM.refl _ _,f9,by rw[e2];exact .refl r.W gi,ae⟩;rintro m e' h'⟨k,row,rfl,hk,K,q9,T,Z⟩;have o:=T.g.ok;have g0:=r.g0 T;have q1:=K.at (t:=1) f1;have q7:=K.at (t:=7) f7;have q8:=K.at (t:=10) f8;obtain⟨sX,hX⟩:=r.hX;have D:=T.g.get gi hX r.oX;have QP:(ys.set i { y with ls:=y.ls.set j ({q.1 with args:=row},q.2) })[i]?=some { y with ls:=y.ls.set j ({q.1 with args:=row},q.2) } :=by rw[fL,bM rfl,bM hi]
 have Y:=T.w.at QP;have Q:(y.ls.set j (({q.1 with args:=row} :GI),q.2))[j]?=some ({q.1 with args:=row},q.2):=by rw[fL,bM rfl,bM W]
 have gY:y.L.l=y.ls.length:=by have:=Y.L.len;simpa using this
 have A:eo cC h' q.2 row:=Y.ls _ (cN Q);have ni:=A.len;have QL:row.length=q.1.args.length:=by rw[Z];simp;omega
 obtain⟨bP,cP,oP,sP,kB,DN,_,_,Ul,_⟩:=Y.L.el Q;have v8:y.L.a=some ⟨bP,0,none⟩:=kB;have J:=Ul 7 1 ag;simp[-ax] at J;simp at D;rw[v8,gY] at D;have oX:=o.cn D;have YK:=o.cn DN;have Vr:=o.st _ _ _ _ _ D;have stP:=o.st _ _ _ _ _ DN;unfold iL;by_cases oK:k<q.1.args.length
 .have wk:=cg ((k:Int)+1) ab ab;obtain⟨v,hv⟩:=aV q.1.args k oK;obtain⟨Kk,II⟩:=xq (f:=bq xs) hv Z;obtain⟨bA,cA,oA,sA,Bf,U,hjA,dQ,hrA,fu⟩:=A.el Kk;have rA:=hrA 0 2 ag;simp[-ax] at rA;rw[Bf,ni,QL] at J;have oA':=o.cn U;simp at q1;rw[jt] at q1;simp[q1,q7,q8,q9,D,aF D,W,oK,J,rA,oX,YK,oA',aQ,-ax];have w:=bC o;have Tt:=T.ck w;have TZ:=w.get o D;have hPt:=w.get o DN;have hAt:=w.get o U;have ct:(tick h').clock=h'.clock+1:=rfl;generalize tick h'=h2 at*;refine cu.call (V:=fun u H=>ay aZ h2 H/\u=.agg ⟨[.bool (bq xs v).1,.int .i64 (bq xs v).2]⟩) (by simpa [jt] using uq w.ok (r.hL.ck r.dt (g0.trans w)) r.xl v) ?_;rintro _ H⟨E,rfl⟩;have eD:=E.get w.ok TZ;have hP3:=E.get w.ok hPt;have Hk:=E.get w.ok hAt;have wa:=dQ 0 2 ag;simp at wa;simp[eD,hP3,Vr,stP,W,oK,Hk,wa,q9,wk];have g7:=aY (off:=k*2) (vs:=cC.enc (bq xs v)) E.ok Hk;have I:=fu (bq xs v) 0 (cC.enc (bq xs v)) ae (by simp[bg]) (put H bA (k*2) cA (cC.enc (bq xs v)) oA) ⟨H.clock,ae⟩;have eAP:bA≠bP:=fun e=>by have:=(T.w.IP QP .L (.X j) bP (cy kB) (by rw[YB.mm Q,<-e];exact cy Bf));cases this
  simp only[wW] at g7 I;have G:=w.trans E;have XT:eo gu (put H bA (k*2) cA [.bool (bq xs v).1,.int .i64 (bq xs v).2] oA) y.L ((y.ls.set j (({q.1 with args:=row} :GI),q.2)).set j ({q.1 with args:=row.set k (bq xs v)},q.2)):=((Y.L.ck o G).go E.ok g7 fun c hc e=>by rw[cy kB] at e;cases e;exact eAP hc.symm).aa6 (by rw[xF,List.map_set,List.map_set];rfl)
  have T7:=T.ins (j:=j) (T.x r.xi) r.hn QP Q (p':=(({q.1 with args:=row.set k (bq xs v)} :GI),q.2)) (G.ck.trans (g7.cY fun c _ e=>.inl ⟨.X j,.inr rfl,by rw[YB.mm Q,e];exact cy Bf⟩)) XT I (fun c e=>.inl e);rw[xF,xF] at T7;refine⟨q.1.args.length-(k+1),ab,k+1,row.set k (bq xs v),rfl,oK,?_,ae,T7,II⟩
  exact aq
 .have:k=q.1.args.length:=ab
  subst this;rw[jT,List.drop_length,Bc] at Z;rw[ni,QL] at J;simp[q1,q7,q8,q9,D,aF D,W,J,-ax];refine C _ _ ?_ (by rw[<-Z];exact T)
  exact aq
end
section
variable{h0 h1 h':az}{n0:Nat}{B:SV}{ys zs:List YB}{L:SV}{xs:List Int}{i:Nat}{y y':YB}{X:Nat}
def RrP(h1:az)(n0:Nat)(B:SV)(ys:List YB)(xs:List Int)(i:Nat)(y:YB)(e:Env)(m:Nat)(e':Env)(h':az):Prop:=
 ∃(j:Nat) (ps:List (GP×SV)),m=y.ps.length-j/\j<=y.ps.length/\aM ([8,9]++(List.range 52).map (· +26)) e e'/\bJ e' 8 j/\cM h1 h' n0 B ys B (ys.set i {y with ps:=ps})/\ps=(y.ps.take j).map (fun q=>(CL xs q.1,q.2))++y.ps.drop j
def ZC(r:RN h0 h1 n0 B ys L xs i y X)(wg:y.ps.length<1000000)(yb:∀q∈y.ps,q.1.row.length<1000000)(f1:bH e 1=L.v)(f7:cm e 7 X)(f8:bJ e 8 0)(C:∀e' h',aM ([8,9]++(List.range 52).map (· +26)) e e'->cM h1 h' n0 B ys B (ys.set i {y with ps:=y.ps.map fun q=>(CL xs q.1,q.2)})->QQ (.exit 2) e' h'):aO FF (.loop iO) e h1 QQ:=by
 have gi:=r.g.ok;have hi:=(di.mp r.hy).1;have Z:L.l=xs.length:=by obtain⟨a,cap,e,_⟩:=id r.hL;simp at e;exact e.2.1
 have e2:ys.set i {y with ps:=y.ps} =ys:=nr r.hy;refine aO.loop (RrP h1 n0 B ys xs i y e) ?_ (n:=y.ps.length) ⟨0,y.ps,rfl,ab,aM.refl _ _,f8,by rw[e2];exact .refl r.W gi,ae⟩;rintro m e' h'⟨j,ps,rfl,hj,K,Q,T,I⟩;have D:=T.g.ok;have o:=r.aw T rfl;have H:=K.at (t:=1) f1;have W:=K.at (t:=7) f7;obtain⟨sX,w⟩:=o.hX;have Y:=o.W.at o.hy;have zJ:ps.length=y.ps.length:=by rw[I];simp;omega
 have gY:y.P.l=y.ps.length:=by have:=Y.P.len;rw[<-zJ];exact this
 simp at w;rw[gY] at w;unfold iO;by_cases U:j<y.ps.length
 .have wj:=cg ((j:Int)+1) ab ab;obtain⟨q,hq⟩:=aV y.ps j U;obtain⟨J,II⟩:=xq (f:=fun q:GP×SV=>(CL xs q.1,q.2)) hq I;obtain⟨bP,cP,oP,sP,kB,DN,_,dQ,Ul,fu⟩:=Y.P.el J;have v8:y.P.a=some ⟨bP,0,none⟩:=kB;have rP:=Ul 0 1 ag;simp[-ax] at rP;rw[v8] at w;have oX:=D.cn w;have YK:=D.cn DN;have Vr:=D.st _ _ _ _ _ w;simp at H;rw[Z] at H;simp[H,W,Q,w,aF w,U,rP,oX,YK,aQ,-ax];have E:=bC D;have TZ:=E.get D w;have G:=E.get D DN;have ct:(tick h').clock=h'.clock+1:=rfl;generalize tick h'=h2 at*;refine cu.call (V:=fun u h3=>h3=h2/\u=.int .i64 (aR xs q.1.dst)) (by simpa [Z] using uw (r.hL.ck r.dt (o.g.trans E)) r.xl q.1.dst) ?_;rintro _ h3⟨eh,rfl⟩;rw[eh];have wa:=dQ 0 1 ag;simp at wa;simp[TZ,Vr,U,G,wa];have g7:=aY (off:=j*2) (vs:=[.int .i64 (aR xs q.1.dst)]) E.ok G;have XT:=fu ((⟨aR xs q.1.dst,q.1.row⟩:GP),q.2) 0 [.int .i64 (aR xs q.1.dst)] ae (by simp[bg]) (put h2 bP (j*2) cP [.int .i64 (aR xs q.1.dst)] oP) ⟨h2.clock,ae⟩;have A7:=((Y.ps q (cN J)).ck D E).go E.ok g7 (fun c hc e=>by have:=o.W.IP o.hy .P (.R j) c (by rw[hc];exact cy kB) (by rw[YB.jN J];exact e);cases this)
  have T7:=(cM.refl o.W D).row (j:=j) o.hn o.hy J (p':=((⟨aR xs q.1.dst,q.1.row⟩:GP),q.2)) (E.ck.trans (g7.cY fun c _ e=>.inl ⟨.P,.inl rfl,by rw[e];exact cy kB⟩)) XT A7 (fun c e=>.inl e);generalize put h2 bP _ _ _ _=h7 at*;have r7:=o.aw T7 rfl;have hq7:(ps.set j ((⟨aR xs q.1.dst,q.1.row⟩:GP),q.2))[j]?=some (⟨aR xs q.1.dst,q.1.row⟩,q.2):=by rw[fL,bM rfl,bM ab]
  refine af8 r7 hq7 (yb q (cN hq)) (by simp[H,Z]) (au W) (au Q) ae ?_;intro e8 h8 K8 T8;have k8:bH e8 8=.int .i64 j:=K8.at (ak Q);simp[k8,wj];have TT:=T.trans (T7.trans T8);rw[xF,xF,xF] at TT;refine⟨y.ps.length-(j+1),ab,j+1,ps.set j (CL xs q.1,q.2),rfl,U,?_,ae,TT,II⟩
  repeat (refine aM.set ?_)
  refine aM.trans ?_ (K8.cY)
  exact aq
 .have:j=y.ps.length:=ab
  subst this;rw[jT,List.drop_length,Bc] at I;simp[W,Q,w,aF w,-ax];refine C _ _ ?_ (by rw[<-I];exact T)
  exact aq
end
section
variable{h0 h1 h':az}{n0:Nat}{B:SV}{ys zs:List YB}{L:SV}{xs:List Int}{i:Nat}{y y':YB}{X:Nat}
def RN.put(r:RN h0 h1 n0 B ys L xs i y X)(o:y.ls[j]?=some q)(u:x'.args=q.1.args){b:Nat}(t:y.L.a=some ⟨b,0,none⟩)(g:ay (· =b) h1 h')(C:eo gu h' y.L (y.ls.set j (x',q.2))):cM h1 h' n0 B ys B (ys.set i {y with ls:=y.ls.set j (x',q.2)}):=by have Y:=r.W.at r.hy;refine(cM.refl r.W r.g.ok).ins (j:=j) r.xi r.hn r.hy o (p':=(x',q.2)) (g.cY fun c _ e=>.inl ⟨.L,.inl rfl,by rw[e];exact cy t⟩) C ?_ (fun c e=>.inl e);rw[u];refine(Y.ls q (cN o)).go r.g.ok g (fun c w e=>?_);have:=r.W.IP r.hy .L (.X j) c (by rw[w];exact cy t) (by rw[YB.mm o];exact e);cases this
def RrL(h1:az)(n0:Nat)(B:SV)(ys:List YB)(xs:List Int)(i:Nat)(y:YB)(e:Env)(m:Nat)(e':Env)(h':az):Prop:=
 ∃(j:Nat) (o:List (GI×SV)),m=y.ls.length-j/\j<=y.ls.length/\aM ([10,11]++(List.range 90).map (· +76)) e e'/\bJ e' 10 j/\cM h1 h' n0 B ys B (ys.set i {y with ls:=o})/\o=(y.ls.take j).map (fun q=>(vb xs q.1,q.2))++y.ls.drop j
def ZB(r:RN h0 h1 n0 B ys L xs i y X)(wg:y.ls.length<1000000)(yb:∀q∈y.ls,q.1.args.length<1000000)(f1:bH e 1=L.v)(f7:cm e 7 X)(f8:bJ e 10 0)(C:∀e' h',aM ([10,11]++(List.range 90).map (· +76)) e e'->cM h1 h' n0 B ys B (ys.set i {y with ls:=y.ls.map fun q=>(vb xs q.1,q.2)})->QQ (.exit 6) e' h'):aO FF (.loop iM) e h1 QQ:=by
 have gi:=r.g.ok;have hi:=(di.mp r.hy).1;have jt:L.l=xs.length:=by obtain⟨a,cap,e,_⟩:=id r.hL;simp at e;exact e.2.1
 have e2:ys.set i {y with ls:=y.ls} =ys:=nr r.hy;refine aO.loop (RrL h1 n0 B ys xs i y e) ?_ (n:=y.ls.length) ⟨0,y.ls,rfl,ab,aM.refl _ _,f8,by rw[e2];exact .refl r.W gi,ae⟩;rintro m e' h'⟨j,w,rfl,hj,K,q8,T,ju⟩;have bS:=T.g.ok;have U:=r.aw T rfl;have q1:=K.at (t:=1) f1;have q7:=K.at (t:=7) f7;obtain⟨sX,Q⟩:=U.hX;have Y:=U.W.at U.hy;have zJ:w.length=y.ls.length:=by rw[ju];simp;omega
 have gY:y.L.l=y.ls.length:=by have:=Y.L.len;rw[<-zJ];exact this
 simp at Q;rw[gY] at Q;unfold iM;by_cases W:j<y.ls.length
 .have wj:=cg ((j:Int)+1) ab ab;obtain⟨q,hq⟩:=aV y.ls j W;obtain⟨Fe,II⟩:=xq (f:=fun q:GI×SV=>(vb xs q.1,q.2)) hq ju;obtain⟨bP,cP,oP,sP,kB,DN,_,dQ,Ul,fu⟩:=Y.L.el Fe;have v8:y.L.a=some ⟨bP,0,none⟩:=kB;have rP:=Ul 2 2 ag;simp[-ax] at rP;rw[v8] at Q;have oX:=bS.cn Q;have YK:=bS.cn DN;have Vr:=bS.st _ _ _ _ _ Q;simp at q1;rw[jt] at q1;simp[q1,q7,q8,Q,aF Q,W,rP,oX,YK,aQ,-ax];have gt:=bC bS;have TZ:=gt.get bS Q;have hPt:=gt.get bS DN;have ct:(tick h').clock=h'.clock+1:=rfl;generalize tick h'=h2 at*;refine cu.call (V:=fun u h3=>ay aZ h2 h3/\u=.agg ⟨[.bool (bq xs q.1.a).1,.int .i64 (bq xs q.1.a).2]⟩) (by simpa [jt] using uq gt.ok (U.hL.ck U.dt (U.g.trans gt)) U.xl q.1.a) ?_;rintro _ h3⟨g3,rfl⟩;have eD:=g3.get gt.ok TZ;have hP3:=g3.get gt.ok hPt;have wa:=dQ 2 2 ag;simp at wa;simp[eD,Vr,W,hP3,wa];have g23:=gt.trans g3;have g4:=aY (off:=j*8+2) (vs:=cC.enc (bq xs q.1.a)) g3.ok hP3;have XS:=fu ({q.1 with a:=bq xs q.1.a},q.2) 2 (cC.enc (bq xs q.1.a)) ae (by simp[bg]) (AI.put h3 bP (j*8+2) cP (cC.enc (bq xs q.1.a)) oP) ⟨h3.clock,ae⟩;simp only[wW] at g4 XS;have T4:=U.put Fe (x':= {q.1 with a:=bq xs q.1.a}) rfl kB (g23.ck.trans g4) XS;have c4:(AI.put h3 bP (j*8+2) cP [.bool (bq xs q.1.a).1,.int .i64 (bq xs q.1.a).2] oP).clock=h3.clock+1:=rfl;rw[<-c4];generalize AI.put h3 bP _ _ _ _=h4 at*;have J:=U.aw T4 rfl;simp only[xF] at T4 J;have S5:=J.g.ok;obtain⟨sX4,kR⟩:=J.hX;have hPl4:y.L.l=y.ls.length:=gY;simp at kR;rw[v8,gY] at kR;have hq4:(w.set j (({q.1 with a:=bq xs q.1.a} :GI),q.2))[j]?=some ({q.1 with a:=bq xs q.1.a},q.2):=by rw[fL,bM rfl,bM ab]
  have Y4:=J.W.at J.hy;obtain⟨H,cP4,oP4,sP4,anz,afk,_,aod,av2,aoG⟩:=Y4.L.el hq4;have e4:H=bP:=by have h:y.L.a=some ⟨H,0,none⟩:=anz;rw[v8] at h;cases h;rfl
  subst e4;have rP4:=av2 4 2 ag;simp[-ax] at rP4;have oX4:=S5.cn kR;have aw_:=S5.cn afk;have axX:=S5.st _ _ _ _ _ kR;simp[q1,q7,q8,kR,aF kR,W,rP4,oX4,aw_,aQ,-ax];have DL:=bC S5;have auP:=DL.get S5 kR;have aut:=DL.get S5 afk;have ct4:(tick h4).clock=h4.clock+1:=rfl;generalize tick h4=h5 at*;refine cu.call (V:=fun u h6=>ay aZ h5 h6/\u=.agg ⟨[.bool (bq xs q.1.b).1,.int .i64 (bq xs q.1.b).2]⟩) (by simpa [jt] using uq DL.ok (J.hL.ck J.dt (J.g.trans DL)) J.xl q.1.b) ?_;rintro _ h6⟨g6,rfl⟩;have po:=g6.get DL.ok auP;have hP6:=g6.get DL.ok aut;have hf4:=aod 4 2 ag;simp at hf4;simp[po,axX,W,hP6,hf4];have g56:=DL.trans g6;have g7:=aY (off:=j*8+4) (vs:=cC.enc (bq xs q.1.b)) g6.ok hP6;have hL7:=aoG ({q.1 with a:=bq xs q.1.a,b:=bq xs q.1.b},q.2) 4 (cC.enc (bq xs q.1.b)) ae (by simp[bg]) (AI.put h6 H (j*8+4) cP4 (cC.enc (bq xs q.1.b)) oP4) ⟨h6.clock,ae⟩;simp only[wW] at g7 hL7;have T7:=J.put hq4 (x':= {q.1 with a:=bq xs q.1.a,b:=bq xs q.1.b}) rfl anz (g56.ck.trans g7) hL7;generalize AI.put h6 H _ _ _ _=h7 at*;have r7:=J.aw T7 rfl;simp only[xF] at T7 r7;have hq7:(w.set j (({q.1 with a:=bq xs q.1.a,b:=bq xs q.1.b} :GI),q.2))[j]?=some ({q.1 with a:=bq xs q.1.a,b:=bq xs q.1.b},q.2):=by rw[fL,bM rfl,bM ab]
  refine ado r7 hq7 (yb q (cN hq)) (by simp[q1,jt]) (au q7) (au q8) ae ?_;intro e8 h8 K8 T8;have k1:bH e8 1=L.v:=K8.at (by simp[q1,jt]);have k7:cm e8 7 X:=K8.at (ak q7);have k10:bH e8 10=.int .i64 j:=K8.at (ak q8);have r8:=r7.aw T8 rfl;simp only[xF] at T8 r8;obtain⟨E,I⟩:∃E:GI,E= {q.1 with a:=bq xs q.1.a,b:=bq xs q.1.b,args:=q.1.args.map (bq xs)} :=⟨_,rfl⟩;have T8':cM h7 h8 n0 B (ys.set i { y with ls:=w.set j ({q.1 with a:=bq xs q.1.a,b:=bq xs q.1.b},q.2) }) B (ys.set i {y with ls:=w.set j (E,q.2)}):=by rw[I];exact T8
  have o:RN h0 h8 n0 B (ys.set i {y with ls:=w.set j (E,q.2)}) L xs i {y with ls:=w.set j (E,q.2)} X:=by rw[I];exact r8
  have TT:=T.trans (T4.trans (T7.trans T8'));have D:=o.g.ok;obtain⟨sX8,TY⟩:=o.hX;simp at TY;rw[v8,gY] at TY;have hq8:(w.set j (E,q.2))[j]?=some (E,q.2):=by rw[fL,bM rfl,bM ab]
  have Y8:=o.W.at o.hy;obtain⟨bP8,cP8,oP8,sP8,anA,anD,_,abY,av3,acm⟩:=Y8.L.el hq8;have e8:bP8=H:=by have h:y.L.a=some ⟨bP8,0,none⟩:=anA;rw[v8] at h;cases h;rfl
  subst e8;have d8:E.dst=q.1.dst:=by rw[I]
  have Z:=av3 1 1 ag;simp[-ax] at Z;rw[d8] at Z;have oX8:=D.cn TY;have apt:=D.cn anD;have axY:=D.st _ _ _ _ _ TY;simp at k1;rw[jt] at k1;have fin:∀(e9:Env)(h9:az)(x9:GI),x9=vb xs q.1->aM ([10,11]++(List.range 90).map (· +76)) e e9->bJ e9 10 ((j+1:Nat):Int)->cM h1 h9 n0 B ys B (ys.set i {y with ls:=w.set j (x9,q.2)})->∃m,m<y.ls.length-j/\RrL h1 n0 B ys xs i y e m e9 h9:=fun e9 h9 x9 hx9 KK kk T9=>⟨y.ls.length-(j+1),ab,j+1,w.set j (x9,q.2),rfl,W,KK,kk,T9,by rw[hx9];exact II⟩;by_cases hd:0<=q.1.dst
  .simp[k1,k7,k10,TY,aF TY,W,Z,hd,oX8,apt,aQ,-ax];have G:=bC D;have auQ:=G.get D TY;have anE:=G.get D anD;have ct8:(tick h8).clock=h8.clock+1:=rfl;generalize tick h8=h9 at*;refine cu.call (V:=fun u LX=>LX=h9/\u=.int .i64 (aR xs q.1.dst)) (by simpa [jt] using uw (o.hL.ck o.dt (o.g.trans G)) o.xl q.1.dst) ?_;rintro _ LX⟨eh,rfl⟩;rw[eh];have hf8:=abY 1 1 ag;simp at hf8;simp[auQ,axY,W,anE,hf8,k10,wj];have g11:=aY (off:=j*8+1) (vs:=[.int .i64 (aR xs q.1.dst)]) G.ok anE;have auh:=acm ({E with dst:=aR xs q.1.dst},q.2) 1 [.int .i64 (aR xs q.1.dst)] ae (by simp[bg]) (AI.put h9 bP8 (j*8+1) cP8 [.int .i64 (aR xs q.1.dst)] oP8) ⟨h9.clock,ae⟩;have T11:=o.put hq8 (x':= {E with dst:=aR xs q.1.dst}) rfl anA (G.ck.trans g11) auh;generalize AI.put h9 bP8 _ _ _ _=h11 at*;simp only[xF] at T11;refine fin _ _ {E with dst:=aR xs q.1.dst} (by rw[I];unfold vb;rw[bM hd]) ?_ ae (TT.trans T11)
   repeat (refine aM.set ?_)
   refine aM.trans ?_ (K8.cY)
   exact aq
  .simp[k1,k7,k10,TY,aF TY,W,Z,hd,oX8,apt,aQ,wj,-ax];refine fin _ _ E (by rw[I];unfold vb;rw[bU hd]) ?_ ae TT
   repeat (refine aM.set ?_)
   refine aM.trans ?_ (K8.cY)
   exact aq
 .have:j=y.ls.length:=ab
  subst this;rw[jT,List.drop_length,Bc] at ju;simp[q7,q8,Q,aF Q,-ax];refine C _ _ ?_ (by rw[<-ju];exact T)
  exact aq
end
def Fl(l:List (Int×(Bool×Int)))(n:Nat):List Nat:=(List.range n).filter fun b:Nat=>(eS l b).isSome
def WY(l:List (Int×(Bool×Int)))(b:Nat):Bool×Int:=(eS l b).getD (false,0)
def filterMap_eq(f:α->Option β)(d:β)(l:List α):l.filterMap f=(l.filter fun a=>(f a).isSome).map fun a=>(f a).getD d:=by
 induction l with
 |nil=>rfl
 |cons x xs o=>
  rw[List.filterMap_cons,List.filter_cons];cases h:f x with
  |none=>simpa using o
  |some y=>simp[o,h]
def JK(l:List (Int×(Bool×Int)))(n:Nat):iC l n=(Fl l n).map (WY l):=filterMap_eq _ _ _
def NU{l:List (Int×(Bool×Int))}{b:Int}(h:eS l b=some v):(b,v)∈l:=by
 unfold eS at h;cases hf:l.find? fun x=>x.1==b with
 |none=>rw[hf] at h;cases h
 |some x=>
  rw[hf] at h;cases h;have h1:=List.find?_some hf;have o:=List.mem_of_find?_eq_some hf;have t:x.1=b:=aj h1
  rw[<-t];exact o
def ahU(l:List (Int×(Bool×Int))):Prop:=∀x∈l,∀y∈l,x.1=y.1->x=y
def TH{l:List (Int×(Bool×Int))}(d:ahU l){b:Int}(h:(b,v)∈l):eS l b=some v:=by
 unfold eS;cases hf:l.find? fun x=>x.1==b with
 |none=>have:=List.find?_eq_none.1 hf _ h;simp at this
 |some x=>
  have h1:=List.find?_some hf;have o:=List.mem_of_find?_eq_some hf;have:=d x o _ h (aj h1);rw[this];rfl
def pU{l:List (Int×(Bool×Int))}{n b:Nat} :b∈Fl l n↔b<n/\∃v,eS l b=some v:=by unfold Fl;rw[Ai,N4,Option.isSome_iff_exists]
def tq{l:List (Int×(Bool×Int))}{x:Int×(Bool×Int)} :x∈fB f l↔ ∃y∈l,0<=f y.1/\x=(f y.1,y.2):=by unfold fB;rw[List.mem_filterMap];constructor;rintro⟨y,o,e⟩;split at e;cases e;exact⟨y,o,by assumption,rfl⟩;cases e;rintro⟨y,o,h0,rfl⟩;exact⟨y,o,by rw[bM h0]⟩
def Pe(w:row.length=pk.length){a:Int}(u:a∈pk):∃v,(a,v)∈pk.zip row:=by obtain⟨i,o⟩:=iI u;have C:=(di.mp o).1;obtain⟨v,t⟩:=aV row i;exact⟨v,cN (i:=i) (by rw[List.getElem?_zip_eq_some];exact⟨o,t⟩)⟩
def agv(nd:pk.Nodup) :ahU (pk.zip row):=by intro x E y D e;obtain⟨i,t⟩:=iI E;obtain⟨j,o⟩:=iI D;have h1:=(List.getElem?_zip_eq_some.1 t);have w:=(List.getElem?_zip_eq_some.1 o);have C:=(di.mp h1.1).2;have u:=(di.mp w.1).2;have:i=j:=(List.getElem_inj nd).1 (C.trans (e.trans u.symm));subst this;rw[t] at o;cases o;rfl
def Q3(K:HC f pk N) :ahU (fB f (pk.zip row)):=by intro x w y u e;obtain⟨x',h1,t,rfl⟩:=tq.1 w;obtain⟨y',o,C,rfl⟩:=tq.1 u;have:=K.inj x'.1 (List.of_mem_zip (a:=x'.1) (b:=x'.2) h1).1 y'.1 (List.of_mem_zip (a:=y'.1) (b:=y'.2) o).1 t e;rw[agv K.nd x' h1 y' o this]
structure kU(bs:List GB)(bp:List Nat):Prop where
 o:Ord bs.length bp
 z:bp[0]?=some 0
 cl:∀(k:Nat)(b:GB),k∈bp->bs[k]?=some b->∀t∈b.to,t.toNat∈bp
section
variable{bs:List GB}{bp:List Nat}
def vE(o:bp[i]?=some k)(t:bs[k]?=some b):(bh bs bp)[i]?=some (dY (aR (nI bp)) bp.length (aX bs k) b):=by unfold bh;rw[js,o,Cx,t];rfl
def qi(o:Ord bs.length bp){u:GB}(h:(bh bs bp)[i]?=some u):∃k b,bp[i]?=some k/\bs[k]?=some b/\u=dY (aR (nI bp)) bp.length (aX bs k) b:=by obtain⟨k,t⟩:=aV bp i (by have:=(di.mp h).1;simpa [bh] using this);obtain⟨b,w⟩:=aV bs k (o.lt k (cN t));rw[vE t w] at h;cases h;exact⟨k,b,t,w,rfl⟩
def Ord.pos(o:Ord n bp){i u:Nat}(h:bp[i]?=some u):aR (nI bp) u=i:=MI o.nd h
def kU.tgt(C:kU bs bp)(E:EB bs)(G:k∈bp)(D:bs[k]?=some b){t:Int}(w:t∈b.to):∃i u:Nat,t=u/\bp[i]?=some u/\aR (nI bp) t=i/\1<=i:=by have h1:=E.to b (cN D) t w;obtain⟨u,rfl⟩:∃u:Nat,t=u:=⟨t.toNat,ab⟩;obtain⟨i,o⟩:=iI (C.cl k b G D _ w);simp at o;refine⟨i,u,rfl,o,C.o.pos o,?_⟩;rcases gp_ i with h|h;subst h;rw[C.z] at o;cases o;omega;exact h
def kU.ahead(C:kU bs bp)(E:EB bs)(H:bp[i]?=some k){a:Nat} :(a:Int)∈aX (bh bs bp) i↔ ∃u:Nat,bp[a]?=some u/\(u:Int)∈aX bs k:=by
 rw[cO];constructor
 .rintro⟨j,e,Q,J,G⟩;have:j=a:=ab
  subst this;obtain⟨u,b,o,D,rfl⟩:=qi C.o J;refine⟨u,o,cO.2 ⟨u,rfl,b,D,?_⟩⟩;obtain⟨t,w,U⟩:=jo.1 G;obtain⟨I,v,rfl,h1,K,_⟩:=C.tgt E (cN o) D w;have:I=i:=ab
  subst this;rw[H] at h1;cases h1;exact w
 .rintro⟨u,o,G⟩;obtain⟨j,e,b,D,w⟩:=cO.1 G;have:j=u:=ab
  subst this;exact⟨a,rfl,_,vE o D,jo.2 ⟨k,w,C.o.pos H⟩⟩
def kU.key(C:kU bs bp)(k:Int):HC (aR (nI bp)) (aX bs k) bp.length:=C.o.key rfl fun _ _=>rfl
def kU.keys(C:kU bs bp)(E:EB bs)(J:bp[i]?=some k)(Q:row.length=(aX bs k).length):aX (bh bs bp) i=(Fl (fB (aR (nI bp)) ((aX bs k).zip row)) bp.length).map fun x:Nat=>(x:Int):=by
 have I:(bh bs bp).length=bp.length:=by simp[bh]
 have e:∀a:Nat,a<bp.length->((a:Int)∈aX (bh bs bp) i↔ ∃v,eS (fB (aR (nI bp)) ((aX bs k).zip row)) a=some v):=fun a t=>by
  rw[C.ahead E J];constructor;rintro⟨u,V,o⟩;obtain⟨v,w⟩:=Pe Q o;have H:=C.o.pos V;exact⟨v,TH (Q3 (C.key k)) (tq.2 ⟨_,w,by show 0<=aR (nI bp) u;omega,by rw[show aR (nI bp) u=(a:Int) from H]⟩)⟩
  .rintro⟨v,w⟩;obtain⟨y,U,h0,e⟩:=tq.1 (NU w);have o:=(List.of_mem_zip (a:=y.1) (b:=y.2) U).1;obtain⟨u,G,b,W,_⟩:=cO.1 o;have K:(a:Int)=aR (nI bp) y.1:=congrArg Prod.fst e;rw[G] at h0 K;rcases C.o.place u with⟨j,h1,D,_⟩|⟨_,D⟩
   exact⟨u,by rw[show a=j by omega];exact h1,G▸o⟩;omega
 show iZ (bh bs bp) (bh bs bp).length i=_;unfold iZ Fl;rw[I];congr 1;refine List.filter_congr fun a t=>?_;have t:=N4.1 t;have h1:=e a t;rw[cO] at h1;have D:(∃x,(bh bs bp)[a]?=some x/\(i:Int)∈x.to)↔ ∃v,eS (fB (aR (nI bp)) ((aX bs k).zip row)) a=some v:=by
  rw[<-h1];constructor;rintro⟨x,h,h'⟩;exact⟨a,rfl,x,h,h'⟩
  .rintro⟨j,e,x,h,h'⟩;have:j=a:=ab
   subst this;exact⟨x,h,h'⟩
 rw[Bool.eq_iff_iff,decide_eq_true_eq,Option.isSome_iff_exists];exact D
def kU.eb(C:kU bs bp)(E:EB bs):EB (bh bs bp):=by
 have dJ:(bh bs bp).length=bp.length:=by simp[bh]
 have CB:=C.o.len;have LY:=E.n50;have I:∀w∈bh bs bp,∃(i k:Nat) (b:GB),bp[i]?=some k/\bs[k]?=some b/\w=dY (aR (nI bp)) bp.length (aX bs k) b:=fun w G=>by obtain⟨i,hi⟩:=iI G;obtain⟨k,b,h1,o,K⟩:=qi C.o hi;exact⟨i,k,b,h1,o,K⟩
 refine⟨?_,ab,fun w G=>?_,fun w G t' IL=>?_,fun i w G p' V=>?_,fun w G=>?_⟩;have:=(di.mp C.z).1;omega
 .obtain⟨i,k,b,H,D,rfl⟩:=I w G;rcases E.kind b (cN D) with⟨h1,o⟩|⟨h1,t,o⟩|⟨h1,t,u,o,K⟩;exact .inl ⟨h1,by simp[dY,o]⟩;exact .inr (.inl ⟨h1,_,by simp[dY,o];rfl⟩)
  .refine .inr (.inr ⟨h1,_,_,by simp[dY,o];exact⟨rfl,rfl⟩,fun e=>K ?_⟩);obtain⟨a,x,rfl,J,W,_⟩:=C.tgt E (cN H) D (t:=t) (by rw[o];simp);obtain⟨c,y,rfl,Q,g4,_⟩:=C.tgt E (cN H) D (t:=u) (by rw[o];simp);have:a=c:=ab
   subst this;rw[J] at Q;cases Q;rfl
 obtain⟨i,k,b,H,D,rfl⟩:=I w G;obtain⟨t,U,rfl⟩:=jo.1 IL;obtain⟨a,x,rfl,J,W,Q⟩:=C.tgt E (cN H) D U;have:=(di.mp J).1;omega
 obtain⟨k,b,H,D,rfl⟩:=qi C.o G;obtain⟨p,Z,rfl⟩:=jo.1 V;rw[C.keys E H (E.rows k b D p Z)];show(iC _ _).length=_;rw[JK,KM,KM]
 obtain⟨i,k,b,H,D,rfl⟩:=I w G;simpa [dY] using E.pl b (cN D)
end
def EB.D7(E:EB bs):kU bs (dP bs):=by obtain⟨o,z⟩:=E.bp;refine⟨o,z,fun k b u C t w=>(E.rch _).2 (Edge.Rch.step ((E.rch k).1 u) (ts:=b.to) ?_ w)⟩;unfold cw;rw[js,C];rfl
def acr{r:List (Bool×Int)}{v x:Bool×Int}(h:x∈wo r j v):x∈r\/x=v:=by unfold wo at h;simp only[jS,List.mem_singleton] at h;rcases h with(h|h)|h;exact .inl (XK h);exact .inr h;exact .inl (List.mem_of_mem_drop h)
def aa9{r:List (Bool×Int)}{x:Bool×Int}(h:x∈pf r k):x∈r:=by unfold pf at h;rcases jS.1 h with h|h;exact XK h;exact List.mem_of_mem_drop h
def acT{cn now:Int}{x:Bool×Int}(h:x∈La pk cn now row):x∈row\/x=(false,0):=by
 unfold La at h;rcases acr h with h|h;exact .inl (aa9 h)
 .cases o:row[(aR pk cn).toNat]? with
  |none=>rw[o] at h;exact .inr h
  |some v=>rw[o] at h;exact .inl (h▸cN o)
structure PC(aB:Nat)(bs:List GB):Prop where
 r:∀b∈bs,tC aB (LO b)
 p:∀b∈bs,b.bD.length<=100000
 a:∀b∈bs,∀x∈b.list,x.args.length<=100000
def kV.al{aB:Nat}(R:kV aB bs):PC aB bs:=⟨R.r,R.p,R.a⟩
def jA{aB:Nat} :tC aB (LO b)↔(∀p∈b.bD,tC aB (yO p))/\(∀x∈b.list,tC aB (DH x))/\tC aB (oz b.on):=by unfold LO tC;constructor;intro h;exact⟨fun p t r o=>h r (List.mem_append_left _ (List.mem_flatMap.2 ⟨p,t,o⟩)),fun x u r o=>h r (List.mem_append_right _ (List.mem_append_left _ (List.mem_flatMap.2 ⟨x,u,o⟩))),fun r o=>h r (List.mem_append_right _ (List.mem_append_right _ o))⟩;rintro⟨h1,w,C⟩ r o;rcases jS.1 o with h|h;obtain⟨p,t,h⟩:=List.mem_flatMap.1 h;exact h1 p t r h;rcases jS.1 h with h|h;obtain⟨x,u,h⟩:=List.mem_flatMap.1 h;exact w x u r h;exact C r h
def dm.aB{aB:Nat}{bs:List GB}{b t:Nat}{B T:GB}(c:dm bs b t B T)(R:PC aB bs):PC aB (stepG bs b t B T):=by
 have S6:∀(i:Nat)(X:GB),X∈bs->∀p∈(if(i:Int)∈T.to then Bm (aX bs i) t b X else X).bD,tC aB (yO p):=fun i X u p w=>by
  have h0:=(jA.1 (R.r X u)).1;split at w
  .obtain⟨q,K,rfl⟩:=jo.1 w;have:=h0 q K;unfold yO at this⊢;intro r H;rcases jS.1 H with h|h
   exact this r (List.mem_append_left _ h);obtain⟨v,E,C⟩:=List.mem_flatMap.1 h;rcases acT E with E|E;exact this r (List.mem_append_right _ (List.mem_flatMap.2 ⟨v,E,C⟩));rw[E] at C;simp[oz] at C
  exact h0 p w
 have I:=cN c.ht;have Q:∀Y∈stepG bs b t B T,∃(i:Nat) (X:GB),bs[i]?=some X/\Y=dG bs b t B T i X:=fun Y G=>by obtain⟨i,U⟩:=iI G;obtain⟨X,h1,C⟩:=fH U;exact⟨i,X,h1,C⟩
 have J:∀(i:Nat)(X:GB),bs[i]?=some X->∀x∈(dG bs b t B T i X).list,∃Y∈bs,x∈Y.list:=fun i X u x o=>by unfold dG at o;split at o;simp[rh] at o;split at o;rcases jS.1 o with h|h;exact⟨B,cN c.hb,h⟩;exact⟨T,I,h⟩;refine⟨X,cN u,?_⟩;split at o<;>exact o
 refine⟨fun Y G=>?_,fun Y G=>?_,fun Y G x o=>?_⟩<;>obtain⟨i,X,u,rfl⟩:=Q Y G;refine jA.2 ⟨fun p w=>?_,fun x o=>?_,?_⟩;by_cases D:i=t;unfold dG at w;rw[bM D] at w;simp[rh] at w;rw[ky D] at w;exact S6 i X (cN u) p w;obtain⟨Y,h1,C⟩:=J i X u x o;exact(jA.1 (R.r Y h1)).2.1 x C;unfold dG;split;intro r H;simp[rh,oz] at H;split;exact(jA.1 (R.r T I)).2.2;split;exact(jA.1 (R.r X (cN u))).2.2;exact(jA.1 (R.r X (cN u))).2.2;have h0:=R.p X (cN u);by_cases D:i=t;unfold dG;rw[bM D];simp[rh];rw[ky D];split;simpa [Bm] using h0;exact h0;obtain⟨Y,h1,C⟩:=J i X u x o;exact R.a Y h1 x C
def Steps.aB{aB:Nat}{a b:List GB}(s:Steps a b)(R:PC aB a):PC aB b:=by
 induction s with
 |refl=>exact R
 |step _ c o=>exact c.aB o
def DV(h:∀b∈bs,b.list.length<=k):gT bs<=bs.length*k:=by
 unfold gT;induction bs with
 |nil=>simp
 |cons b bs o=>
  have h1:=h b (h_ ..);have u:=o fun b t=>h b (uQ _ t);simp only[xX,List.sum_cons,List.length_cons,uP,Nat.one_mul];omega
def PE(p:Nat)(bs:List GB)(t:Nat×List GB):Prop:=∃o,Steps (bh bs (dP bs)) o/\(∀x,uV o x)/\EB o/\t=wy p o
def Vt(H:cr h){name:ByteArray}{p n0 aB:Nat}(uU:n0<=h.aw)(W:FZ h n0 B ys)(xi:wI B ys)(E:EB (ys.map YB.g))(R:kV aB (ys.map YB.g))(Lb:∀b∈ys.map YB.g,b.list.length<=1000)(hp:p<=aB)(DR:aB<1000000):bc FF 77 [.agg ⟨aC name p aB B⟩] h (fun v h'=>∃J,PE p (ys.map YB.g) J/\vU name p n0 B ys J h v h'):=by
 have C:=E.D7;have LY:=E.n50;have CB:=C.o.len;have RK:=R.kept C.o;have EK:=C.eb E;have hKl:(bh (ys.map YB.g) (dP (ys.map YB.g))).length=(dP (ys.map YB.g)).length:=by simp[bh]
 have LK:gT (bh (ys.map YB.g) (dP (ys.map YB.g)))<=50000:=by refine sx (DV (k:=1000) fun b w=>?_) (by rw[hKl];exact CX 1000 (m:=50) ab);unfold bh at w;obtain⟨k,hk,rfl⟩:=jo.1 w;obtain⟨X,hX⟩:=aV (ys.map YB.g) k (C.o.lt k hk);rw[hX];exact Lb X (cN hX)
 have mN:∀c,h.aw<=c->¬cx B ys c:=fun c hc h1=>av (W.mo H h1)
 refine bc.of PY ?_;unfold FW;have n2:¬h.aw=h.aw+1:=ab
 have n3:¬h.aw+1=h.aw:=ab
 simp[aC,n2,n3];refine cu.cut (fun h1=>ay aZ h h1/\h1.tr.get h.aw=some (.bZ (aC name p aB B) false 0 0)/\(dg h1 (h.aw+1) [.string ⟨⟨[]⟩⟩,.int .i64 0,.int .i64 0,.slice none 0 0])) ?_ ?_;exact⟨(((ay.refl H).new _ _).new _ _).tick,by simp[aC,n2],⟨0,ae⟩⟩;rintro h1⟨G,yD,⟨sR,Bg⟩⟩;have lR:=G.ok.wf _ _ Bg;refine cu.call (V:=fun v h'=>ay aZ h1 h'/\∃L:SV,v=L.v/\bu encI h1.aw h' L.v (uy (ys.map YB.g)).reverse) (by simpa [aC] using CJ G.ok (name:=name) (p:=p) (r:=aB) (W.ck H G).view E.ends E.n1) ?_;rintro _ h2⟨D,L,rfl,hL⟩;rw[OB] at hL;have jC:=G.trans D;have jz:=D.get G.ok yD;have w_:=D.get G.ok Bg;have W2:=W.ck H jC;have l2:=D.aw;simp[jz];refine cu.call (V:=aaG name p aB n0 B ys (bh (ys.map YB.g) (dP (ys.map YB.g))) h2) (by simpa [aC] using IT D.ok (name:=name) (p:=p) (r:=aB) W2 ab E (aj C.o) hL.sl (fun _ b w h=>by have:=hL.of w;have:=W.mo H h;omega)) ?_;rintro _ h3⟨U,y3,rfl,u,M3⟩;have T03:=((cM.refl W H).ck jC).trans u;have Ew:=u.g.get D.ok w_ (mN _ ab);have l3:=u.g.aw;simp[aC];refine cu.call (V:=aaC name p aB n0 U y3 h3) (by simpa [aC] using NB u.g.ok (name:=name) (p:=p) (rg:=aB) ab u.w (by rw[M3];exact EK) (by rw[M3];omega)) ?_;rintro _ h4⟨rfl,t,o,No4⟩;have K:=T03.trans o.T;have S4:=o.S;have L4:=o.l;rw[M3] at S4 L4;have RA:=S4.aB RK.al;have R4:kV aB (t.map YB.g):=⟨RA.r,RA.p,fun b w=>by obtain⟨i,hi⟩:=iI w;have:=xp hi;omega,RA.a⟩
 have l4:=o.T.g.aw;have oR:¬cx U y3 (h.aw+1):=fun e=>(u.s _ e).elim (mN _ ab) ab;have I:¬cx U t (h.aw+1):=fun e=>(o.T.s _ e).elim oR ab;have KP:=o.T.g.get u.g.ok Ew oR;simp[aC];refine cu.call (V:=vU name p n0 U t (wy p (t.map YB.g)) h4) (by simpa [aC] using Ri o.T.g.ok (name:=name) (p:=p) ab o.T.w (K.x xi) o.E R4 hp DR) ?_;rintro _ h5⟨Z,y5,rfl,Q,M5⟩;have T05:=K.trans Q;have Ak:=Q.g.get o.T.g.ok KP I;simp[aC,Ak];have gw:=(ay.refl Q.g.ok).put (S:=(· =h.aw+1)) (off:=0) (vs:=[Value.string name,Value.int .i64 p,Value.int .i64 (wy p (t.map YB.g)).1,Value.slice Z.a Z.l Z.c]) ⟨_,Ak⟩ (.inr rfl);generalize put h5 _ _ _ _ _=h6 at gw⊢;exact⟨(wy p (t.map YB.g)).1,(wy p (t.map YB.g)).2,⟨t.map YB.g,S4,No4,o.E,rfl⟩,Z,y5,by simp[aC],T05.go gw (fun c e=>⟨ab,fun h=>by rw[e] at h;exact(Q.s _ h).elim I ab⟩),M5⟩
def abm{α:Type}(p:α->Bool):∀xs:List α,∃f:Nat->Nat,(∀a b,f a=f b->a=b)/\∀j,j<(xs.filter p).length->(xs.filter p)[j]?=xs[f j]?
 |[]=>⟨id,fun _ _ h=>h,fun j h=>by simp at h⟩
 |x::l=>by
  obtain⟨f,i,e⟩:=abm p l;by_cases h:p x
  .refine⟨fun j=>if j=0 then 0 else f (j-1)+1,fun a b e=>?_,fun j o=>?_⟩;dsimp only at e;split at e<;>split at e;omega;omega;omega;have:=i _ _ (by omega:f (a-1)=f (b-1));omega
   .rw[List.filter_cons_of_pos h] at o⊢;cases j with
    |zero=>rfl
    |succ j=>simp at o;simpa using e j o
  exact⟨fun j=>f j+1,fun a b h=>i a b (Nat.succ.inj h),fun j o=>by rw[List.filter_cons_of_neg h] at o⊢;simpa using e j o⟩
def Lo.mR(f:Nat->Nat):Lo->Lo
 |.R j=>.R (f j)
 |.P=>.P
 |.L=>.L
 |.T=>.T
 |.X j=>.X j
def Lo.mX(f:Nat->Nat):Lo->Lo
 |.X j=>.X (f j)
 |.P=>.P
 |.L=>.L
 |.T=>.T
 |.R j=>.R j
def Lo.aph{f:Nat->Nat}(i:∀a b,f a=f b->a=b)(a b:Lo)(e:a.mR f=b.mR f):a=b:=by cases a<;>cases b<;>simp[Lo.mR] at e<;>first|rfl|(rw[i _ _ e])|(rw[e])
def Lo.api{f:Nat->Nat}(i:∀a b,f a=f b->a=b)(a b:Lo)(e:a.mX f=b.mX f):a=b:=by cases a<;>cases b<;>simp[Lo.mX] at e<;>first|rfl|(rw[i _ _ e])|(rw[e])
section
variable{h0 h h':az}{n0:Nat}{y y':YB}{B0 B:SV}{gZ ys:List YB}{i:Nat}
def cM.del{k:Lo}(φ:Lo->Lo)(T:cM h0 h n0 B0 gZ B ys)(W:n0<=h0.aw)(u:ys[i]?=some y)(D:¬k.x)(Q:∀a b,φ a=φ b->a=b)(C:∀l,(φ l).x↔l.x)(t:∀l c,y'.loc l=some c->y.loc (φ l)=some c)(g:ay (fun c=>y.loc k=some c\/eR B=some c) h h')(K:eo dZ h' B (ys.set i y'))(x:(∀c l,(y.loc k=some c\/eR B=some c)->l≠k->y.loc l≠some c)->BZ h' y'):cM h0 h' n0 B0 gZ B (ys.set i y'):=by
 have V:=T.g.aw;refine T.step g (fun c w=>.inl (w.elim (fun e=>⟨some (i,k),by rw[cz u];exact e⟩) fun e=>⟨none,e⟩)) (T.w.tz T.g.ok g ab u (fun c w o E=>?_) K (x fun c l w G t=>?_) (fun p inj a b c h1 J=>?_) fun l c e=>.inl ⟨φ l,t l c e,(C l).1⟩);rcases w with e|e;exact .inr ⟨k,T.w.own u e E D⟩;exact .inl (T.w.tf none o c e E).symm;rcases w with e|e;exact G (T.w.IP u k l c e t D).symm;have:=T.w.tf none (some (i,l)) c e (by rw[cz u];exact t);cases this
 rcases inj (φ a) (φ b) c (t a c h1) (t b c J) with e|⟨H,U,I⟩;exact .inl (Q a b e);exact .inr ⟨H,(C a).1 U,(C b).1 I⟩
def cM.aa8(p:GP×SV->Bool)(T:cM h0 h n0 B0 gZ B ys)(K:n0<=h0.aw)(C:ys[i]?=some y)(g:ay (fun c=>y.loc .P=some c\/eR B=some c) h h')(I:eo dZ h' B (ys.set i {y with P:=P',ps:=y.ps.filter p}))(D:eo iG h' P' (y.ps.filter p))(H:P'.a=y.P.a):cM h0 h' n0 B0 gZ B (ys.set i {y with P:=P',ps:=y.ps.filter p}):=by
 obtain⟨f,J,G⟩:=abm p y.ps;have u:=T.g.ok;have Y:=T.w.at C;refine T.del (k:=.P) (Lo.mR f) K C (fun h=>h) (Lo.aph J) (fun l=>?_) (fun l c e=>?_) g I fun no=>⟨D,Y.L.go u g fun c o=>no c .L o nofun,Y.T.go u g fun c o=>no c .T o nofun,fun q t=>?_,fun q t=>?_⟩
 cases l<;>exact Iff.rfl
 .cases l with
  |P=>
   have e:eR P'=some c:=e;show eR y.P=some c;rw[<-e];unfold eR;rw[H]
  |R j=>
   obtain⟨q,h1,E⟩:=Ev.1 e;have:=G j (di.mp h1).1;exact Ev.2 ⟨q,by rw[<-this];exact h1,E⟩
  |_=>exact e
 .obtain⟨k,w⟩:=iI (Ai.1 t).1;exact(Y.ps q (Ai.1 t).1).go u g fun c o=>by rw[<-YB.jN w];exact no c (.R k) o nofun
 .obtain⟨k,w⟩:=iI t;exact(Y.ls q t).go u g fun c o=>by rw[<-YB.mm w];exact no c (.X k) o nofun
def cM.atA(p:GI×SV->Bool)(T:cM h0 h n0 B0 gZ B ys)(J:n0<=h0.aw)(C:ys[i]?=some y)(g:ay (fun c=>y.loc .L=some c\/eR B=some c) h h')(H:eo dZ h' B (ys.set i {y with L:=L',ls:=y.ls.filter p}))(E:eo gu h' L' (y.ls.filter p))(K:L'.a=y.L.a):cM h0 h' n0 B0 gZ B (ys.set i {y with L:=L',ls:=y.ls.filter p}):=by
 obtain⟨f,I,G⟩:=abm p y.ls;have u:=T.g.ok;have Y:=T.w.at C;refine T.del (k:=.L) (Lo.mX f) J C (fun h=>h) (Lo.api I) (fun l=>?_) (fun l c e=>?_) g H fun no=>⟨Y.P.go u g fun c o=>no c .P o nofun,E,Y.T.go u g fun c o=>no c .T o nofun,fun q t=>?_,fun q t=>?_⟩
 cases l<;>exact Iff.rfl
 .cases l with
  |L=>
   have e:eR L'=some c:=e;show eR y.L=some c;rw[<-e];unfold eR;rw[K]
  |X j=>
   obtain⟨q,h1,D⟩:=Ev.1 e;have:=G j (di.mp h1).1;exact Ev.2 ⟨q,by rw[<-this];exact h1,D⟩
  |_=>exact e
 .obtain⟨k,w⟩:=iI t;exact(Y.ps q t).go u g fun c o=>by rw[<-YB.jN w];exact no c (.R k) o nofun
 .obtain⟨k,w⟩:=iI (Ai.1 t).1;exact(Y.ls q (Ai.1 t).1).go u g fun c o=>by rw[<-YB.mm w];exact no c (.X k) o nofun
end
def FL(aB:Nat)(h:az)(d o t:Nat)(w:SV)(row:List (Bool×Int)):Prop:=bj cC h w.v row/\row.length<2000000/\(∀v∈row,Dc aB v)/\(row≠[]->∀b,bt w.v b->b≠d/\(b<o\/t<=b))
def FL.grow{aB d t u:Nat}{w:SV}(k:FL aB h d t u w row)(C:cr h)(g:ay (· =d) h h'):FL aB h' d t u w row:=by obtain⟨s,h1,D,o⟩:=k;exact⟨Eo s C g fun e b E=>(o e b E).1,h1,D,o⟩
structure Td(h0 h:az)(aB d lo:Nat)(ws:List SV)(rws:List (List (Bool×Int))):Prop where
 g:ay aZ h0 h
 n0:h0.aw<=d
 hd:dg h d (rj.flat ws)
 len:ws.length=aB
 rl:rws.length=aB
 u4:∀(n:Nat)(w:SV)(row:List (Bool×Int)),ws[n]?=some w->rws[n]?=some row->FL aB h d lo h0.aw w row
def Td.ck{h0 h h':az}{aB d o:Nat}{ws:List SV}{rws:List (List (Bool×Int))}(w:Td h0 h aB d o ws rws)(g:ay aZ h h'):Td h0 h' aB d o ws rws:=by obtain⟨s,t⟩:=w.hd;exact⟨w.g.trans g,w.n0,⟨s,g.get w.g.ok t⟩,w.len,w.rl,fun n x row h1 u=>(w.u4 n x row h1 u).grow w.g.ok g.ck⟩
def Td.put{h0 h:az}{aB d C k:Nat}{ws:List SV}{rws:List (List (Bool×Int))}{w:SV}{row:List (Bool×Int)}(t:Td h0 h aB d C ws rws)(u:k<aB)(E:FL aB h d C h0.aw w row):Td h0 (put h d k (rj.flat ws) [w.v] 0) aB d C (ws.set k w) (rws.set k row):=by
 obtain⟨s,D⟩:=t.hd;have g:ay (· =d) h (AI.put h d k (rj.flat ws) [w.v] 0):=aY t.g.ok D;refine⟨t.g.put ⟨_,D⟩ (.inl t.n0),t.n0,⟨h.clock,by rw[aP,Sh ws k w (by rw[t.len];exact u)]⟩,by simp[t.len],by simp[t.rl],fun n x r h1 o=>?_⟩;rw[fL] at h1 o;by_cases e:k=n
 rw[bM e,bM (by rw[t.len];exact u)] at h1;rw[bM e,bM (by rw[t.rl];exact u)] at o;cases h1;cases o;exact E.grow t.g.ok g;rw[bU e] at h1 o;exact(t.u4 n x r h1 o).grow t.g.ok g
def tkP(rws:List (List (Bool×Int)))(ps:List GP):List (List (Bool×Int)):=ps.foldl (fun r q=>r.set q.dst.toNat q.row) rws
def tkX(rws:List (List (Bool×Int)))(xs:List GI):List (List (Bool×Int)):=xs.foldl (fun r x=>if x.dst<0 then r else r.set x.dst.toNat (dH x)) rws
def akC{rws:List (List (Bool×Int))}{q:GP}(o:ps[j]?=some q):tkP rws (ps.take (j+1))=(tkP rws (ps.take j)).set q.dst.toNat q.row:=by rw[lg,o];unfold tkP;rw[List.foldl_append];rfl
def adS{rws:List (List (Bool×Int))}{xs:List GI}(o:xs[j]?=some x):tkX rws (xs.take (j+1))=if x.dst<0 then tkX rws (xs.take j) else(tkX rws (xs.take j)).set x.dst.toNat (dH x):=by rw[lg,o];unfold tkX;rw[List.foldl_append];rfl
section
variable{hf h0:az}{aB d:Nat}
def asY(h0 h:az)(aB d o:Nat)(rws:List (List (Bool×Int)))(ps:List GP)(e:Env)(m:Nat)(e':Env)(h':az):Prop:=
 ∃(j:Nat) (ws:List SV),m=ps.length-j/\j<=ps.length/\aM [7,23,24,25,26,27,28,29,30,31,32,33] e e'/\bJ e' 23 j/\Td h0 h' aB d o ws (tkP rws (ps.take j))/\ay (· =d) h h'
def Sr{rws:List (List (Bool×Int))}(u:cr hf)(Z:ay aZ hf h0)(w:Td h0 h aB d hf.aw ws rws){P:SV}(hP:aD (pR hf) 2 hf P.v ps)(ju:∀q∈ps,(0<=q.dst/\q.dst<aB)/\q.row.length<2000000/\∀v∈q.row,Dc aB v)(hl:ps.length<1000000)(f3:bH e 3=.slice (some ⟨d,0,none⟩) aB aB)(I:bH e 21=P.v)(Q:bJ e 22 ps.length)(f23:bJ e 23 0)(K:∀W h' vS,Td h0 h' aB d hf.aw vS (tkP rws ps)->ay (· =d) h h'->aM [7,23,24,25,26,27,28,29,30,31,32,33] e W->QQ (.exit 2) W h'):aO FF (.loop uE) e h QQ:=by
 have gY:=aD.len hP;refine aO.loop (asY h0 h aB d hf.aw rws ps e) ?_ (n:=ps.length) ⟨0,ws,rfl,ab,aM.refl _ _,f23,w,.refl w.g.ok⟩;rintro m W h'⟨j,ws,rfl,hj,E,Zd,o,gd⟩;have q3:=E.at f3;have t:=E.at I;have C:=E.at Q;unfold uE;by_cases bk:j<ps.length
 .have wj:=cg ((j:Int)+1) ab ab;have hx:ps[j]?=some ps[j]:=g_ bk;have hm:=Be bk;generalize ps[j]=q at hx hm;obtain⟨⟨Oc,hdn⟩,yb,J⟩:=ju q hm;obtain⟨k,hk⟩:∃k:Nat,q.dst=k:=⟨q.dst.toNat,ab⟩;obtain⟨bb,off,c,kB,_,_,⟨A,rfl,sA⟩,_,cZ⟩:=aD.later u hP hx;have V:=cZ h' (Z.trans o.g) 0 2 ag;simp[-ax] at V;rw[hk] at V;simp at t;rw[kB,gY] at t;have D:ay aZ h' (put (aK h' [.int .i64 0,.slice none 0 0] 0) h'.aw 0 [.int .i64 0,.slice none 0 0] [.int .i64 k,.slice A.a A.l A.c] 0):=(ay.refl o.g.ok).var _ _;have w2:=o.ck D;obtain⟨s,U⟩:=o.hd;have od:=o.g.ok.cn U;have Ps:k<aB:=ab
  have oK:k+1<=ws.length:=by rw[o.len];omega
  have H:FL aB (put (aK h' [.int .i64 0,.slice none 0 0] 0) h'.aw 0 [.int .i64 0,.slice none 0 0] [.int .i64 k,.slice A.a A.l A.c] 0) d hf.aw h0.aw A q.row:=by
   refine⟨(BP sA).ck u (Z.trans w2.g),yb,J,fun eQ b hb=>?_⟩;have sO:=BP sA;obtain⟨CF,n',aeZ,e⟩:=hb;obtain⟨a,cap,G,s⟩:=sO;rcases s with s|⟨b2,YN,cs2,ro2,o2,st2,e3,pz,_⟩
   exact absurd s.1 eQ;rw[e,e3] at G;injection G with G;cases G;have:=u.wf _ _ pz;have:=o.n0;have:=Z.aw;exact⟨ab,.inl ab⟩
  simp[q3,t,C,Zd,bk,V,-ax,aH,U,od,oK,Ps,wj];refine⟨ps.length-(j+1),ab,j+1,ws.set k A,rfl,ab,?_,ae,by rw[akC hx,hk];simpa using w2.put Ps H,(gd.trans D.ck).trans (aY D.ok (D.get o.g.ok U))⟩
  exact aq
 .have:j=ps.length:=ab
  subst this;simp[C,Zd];exact K _ _ ws (by rw[jT] at o;exact o) gd (E.set)
def asX(h0 h:az)(aB d o:Nat)(rws:List (List (Bool×Int)))(xs:List GI)(e:Env)(m:Nat)(e':Env)(h':az):Prop:=
 ∃(j:Nat) (ws:List SV),m=xs.length-j/\j<=xs.length/\aM [9,37,38,39,40,41,42,43,44,45,46,47,48,49,50,51] e e'/\bJ e' 37 j/\Td h0 h' aB d o ws (tkX rws (xs.take j))/\ay (· =d) h h'
def Sq{rws:List (List (Bool×Int))}(H:cr hf)(gf:ay aZ hf h0)(w:Td h0 h aB d hf.aw ws rws){L:SV}{xs:List GI}(hL:aD (iR hf) 8 hf L.v xs)(BI:∀x∈xs,x.dst<aB/\x.args.length<1900000/\∀v∈dH x,Dc aB v)(hl:xs.length<1000000)(f3:bH e 3=.slice (some ⟨d,0,none⟩) aB aB)(f35:bH e 35=L.v)(f36:bJ e 36 xs.length)(f37:bJ e 37 0)(K:∀e' h' vS,Td h0 h' aB d hf.aw vS (tkX rws xs)->ay (· =d) h h'->aM [9,37,38,39,40,41,42,43,44,45,46,47,48,49,50,51] e e'->QQ (.exit 4) e' h'):aO FF (.loop uD) e h QQ:=by
 have jt:=aD.len hL;refine aO.loop (asX h0 h aB d hf.aw rws xs e) ?_ (n:=xs.length) ⟨0,ws,rfl,ab,aM.refl _ _,f37,w,.refl w.g.ok⟩;rintro m e' h'⟨j,ws,rfl,hj,Q,t,C,gd⟩;have q3:=Q.at f3;have o:=Q.at f35;have E:=Q.at f36;unfold uD;by_cases bk:j<xs.length
 .have wj:=cg ((j:Int)+1) ab ab;have W:xs[j]?=some xs[j]:=g_ bk;have hm:=Be bk;generalize xs[j]=x at W hm;obtain⟨hdn,x5,hv⟩:=BI x hm;obtain⟨bb,off,c,SM,_,_,⟨A,rfl,sA⟩,_,cZ⟩:=aD.later H hL W;have U:=cZ h' (gf.trans C.g) 0 8 ag;simp[aJ,-ax] at U;simp at o;rw[SM,jt] at o;have J:ay aZ h' (put (aK h' [.int .i64 0,.int .i64 0,.bool false,.int .i64 0,.bool false,.int .i64 0,.int .i64 0,.slice none 0 0] 0) h'.aw 0 [.int .i64 0,.int .i64 0,.bool false,.int .i64 0,.bool false,.int .i64 0,.int .i64 0,.slice none 0 0] [.int .i64 x.op,.int .i64 x.dst,.bool x.a.1,.int .i64 x.a.2,.bool x.b.1,.int .i64 x.b.2,.int .i64 x.fn,.slice A.a A.l A.c] 0):=(ay.refl C.g.ok).var _ _;by_cases E8:x.dst<0
  .have SQ:¬0<=x.dst:=ab
   simp[q3,o,E,t,bk,U,-ax,aH,SQ,E8,wj];refine⟨xs.length-(j+1),ab,j+1,ws,rfl,ab,?_,ae,by rw[adS W,bM E8];exact C.ck J,gd.trans J.ck⟩
   exact aq
  .obtain⟨k,hk⟩:∃k:Nat,x.dst=k:=⟨x.dst.toNat,ab⟩;have Ps:k<aB:=ab
   rw[hk] at U J;have hXv:(put (aK h' [.int .i64 0,.int .i64 0,.bool false,.int .i64 0,.bool false,.int .i64 0,.int .i64 0,.slice none 0 0] 0) h'.aw 0 [.int .i64 0,.int .i64 0,.bool false,.int .i64 0,.bool false,.int .i64 0,.int .i64 0,.slice none 0 0] [.int .i64 x.op,.int .i64 k,.bool x.a.1,.int .i64 x.a.2,.bool x.b.1,.int .i64 x.b.2,.int .i64 x.fn,.slice A.a A.l A.c] 0).tr.get h'.aw=some (.bZ [.int .i64 x.op,.int .i64 k,.bool x.a.1,.int .i64 x.a.2,.bool x.b.1,.int .i64 x.b.2,.int .i64 x.fn,.slice A.a A.l A.c] false 0 h'.clock):=ae
   simp[q3,o,E,t,bk,U,-ax,aH,aQ];refine cu.cut (fun u=>ay aZ h' u/\u.tr.get h'.aw=some (.bZ [.int .i64 x.op,.int .i64 k,.bool x.a.1,.int .i64 x.a.2,.bool x.b.1,.int .i64 x.b.2,.int .i64 x.fn,.slice A.a A.l A.c] false 0 h'.clock)) ⟨J.tick,hXv⟩ ?_;rintro u⟨g5,oJ⟩;have w5:=C.ck g5;refine cu.call (V:=fun v h'=>v=.func (.func 192) #[] #[.pointer (some ⟨u.aw,0,none⟩)]/\h'=aK u (fN x A) 0) (by simpa [fN,aJ,hk] using FG u x A) ?_;rintro _ Z⟨rfl,e6⟩;have g6:ay aZ u Z:=by rw[e6];exact aN w5.g.ok _ _
   have po:dg Z u.aw (fN x A):=⟨0,by rw[e6];exact bz _ _ _⟩;clear e6;have D:=w5.ck g6;simp;refine cu.call (V:=aeD Z (dH x)) (aj (NL D.g.ok po (sA.mono H (gf.trans D.g) fun _ _ h=>h) x5)) ?_;rintro _ h7⟨g7,Lc,rfl,I⟩;have w7:=D.ck g7;have LZ:=g7.get D.g.ok (g6.get w5.g.ok oJ (fun h=>h));obtain⟨s,G⟩:=w7.hd;have oK:k+1<=ws.length:=by rw[C.len];omega
   have l6:d<Z.aw:=by obtain⟨_,h⟩:=D.hd;exact D.g.ok.wf _ _ h
   have hg7:FL aB h7 d hf.aw h0.aw Lc (dH x):=⟨I.sl,av (MX x),hv,fun _ b hb=>by have:=I.of hb;have:=D.g.aw;exact⟨ab,.inr ab⟩⟩;simp[LZ,Ps,G,oK,wj,t];refine⟨xs.length-(j+1),ab,j+1,ws.set k Lc,rfl,ab,?_,ae,by rw[adS W,bU E8,hk];simpa using w7.put Ps hg7,(((gd.trans g5.ck).trans g6.ck).trans g7.ck).trans (aY w7.g.ok G)⟩
   exact aq
 .have:j=xs.length:=ab
  subst this;simp[E,t];exact K _ _ ws (by rw[jT] at C;exact C) gd (Q.set)
end
def tkB(rws:List (List (Bool×Int)))(bs:List GB):List (List (Bool×Int)):=bs.foldl (fun r b=>tkX (tkP r b.bD) b.list) rws
def akB{rws:List (List (Bool×Int))}{x:GB}(o:bs[j]?=some x):tkB rws (bs.take (j+1))=tkX (tkP (tkB rws (bs.take j)) x.bD) x.list:=by rw[lg,o];unfold tkB;rw[List.foldl_append];rfl
def asZ(h0:az)(aB d o:Nat)(bs:List GB)(B:SV)(m:Nat)(e':Env)(h':az):Prop:=
 ∃(j:Nat) (ws:List SV),m=bs.length-j/\j<=bs.length/\bH e' 3=.slice (some ⟨d,0,none⟩) aB aB/\bH e' 14=B.v/\bJ e' 15 bs.length/\bJ e' 16 j/\Td h0 h' aB d o ws (tkB (List.replicate aB []) (bs.take j))
def aaS(aB o:Nat)(bs:List GB)(h:az)(v:Value)(h':az):Prop:=∃d ws,v=.slice (some ⟨d,0,none⟩) aB aB/\Td h h' aB d o ws (tkB (List.replicate aB []) bs)
def Sp{hf h:az}(u:cr hf)(H:ay aZ hf h){name:ByteArray}{p:Int}{aB:Nat}(hB:qg hf B bs)(T:vg aB bs)(hr:aB<1000000):bc FF 130 [.agg ⟨aC name p aB B⟩] h (aaS aB hf.aw bs h):=by
 have ok:=H.ok;have dT:=aD.len hB;have qW:=T.len;have r1:roomy aB=true:=by simp[roomy];omega
 have r2:roomy (aB*24)=true:=by simp[roomy];omega
 refine bc.of Ns ?_;unfold Dk;have hz:jn [Value.slice none 0 0] aB=rj.flat (List.replicate aB cK):=Ay rj cK rfl aB;simp[aC,r1,r2,hz];refine aO.cut (fun h1=>Td h h1 aB (h.aw+1) hf.aw (List.replicate aB cK) (List.replicate aB [])) ?_ ?_
 refine⟨((ay.refl ok).new _ _).new _ _,ab,⟨0,ae⟩,ae,ae,fun n w row h1 h2=>?_⟩;cases(List.mem_replicate.1 (cN h1)).2;cases(List.mem_replicate.1 (cN h2)).2;exact⟨.nil cC _ 0,ae,fun v hv=>by simp at hv,fun h=>absurd rfl h⟩;intro h1 w1;refine aO.loop (asZ h aB (h.aw+1) hf.aw bs B) ?_ (n:=bs.length) ⟨0,_,rfl,ab,ae,ae,au dT,ae,w1⟩;rintro m e' h'⟨j,ws,rfl,hj,Z,E,W,Fv,o⟩;unfold zT;by_cases I:j<bs.length
 .have wj:=cg ((j:Int)+1) ab ab;have hx:bs[j]?=some bs[j]:=g_ I;have D:=Be I;generalize bs[j]=x at hx D;obtain⟨bb,off,c,fp,_,_,⟨P,L,T',rfl,sP,sL,sT⟩,_,cZ⟩:=aD.later u hB hx;have r0:=cZ h' (H.trans o.g) 0 6 ag;have gY:=aD.len sP;have jt:=aD.len sL;simp[-ax] at r0;simp at E;rw[fp,dT] at E;simp[E,W,Fv,I,r0,-ax,aH];refine aO.cut (fun h1=>ay aZ h' h1/\dg h1 h'.aw [P.v,L.v,.int .i64 x.kind,.bool x.on.1,.int .i64 x.on.2,T'.v]) ⟨(ay.refl o.g.ok).var _ _,_,aP _ _ _ _ _ _⟩ ?_;rintro h2⟨g2,s3,hX⟩;have ld:h.aw+1<h'.aw:=by obtain⟨_,h⟩:=o.hd;exact o.g.ok.wf _ _ h
  have w2:=o.ck g2;refine Sr u H w2 sP (T.ph x D).2 (T.ph x D).1 (au Z) ae (au gY) ae ?_;intro e3 h3 ws3 w3 g3 C;have eD:=g3.get g2.ok hX ab;simp at eD;have k3:=C.at (t:=3) (ak Z);have k5:cm e3 5 h'.aw:=C.at ae;have Q:=C.at (t:=14) (ak E);have U:=C.at (t:=15) (ak W);have k16:=C.at (t:=16) (ak Fv);simp[k5,eD];refine Sq u H w3 sL (T.li x D).2 (T.li x D).1 (au k3) ae (au jt) ae ?_;intro e4 h4 K w4 g4 G;have V:=G.at (t:=3) (ak k3);have awG:=G.at (t:=14) (ak Q);have awH:=G.at (t:=15) (ak U);have J:=G.at (t:=16) (ak k16);simp[J,wj];exact⟨bs.length-(j+1),ab,j+1,K,rfl,I,au V,by simp[awG,fp,dT],au awH,ae,(by rw[akB hx];exact w4)⟩
 .have:j=bs.length:=ab
  subst this;simp[Z,W,Fv];rw[jT] at o;exact⟨_,ws,rfl,o⟩
structure y7(rws:List (List (Bool×Int)))(vs:List (Bool×Int))(a b:List Bool):Prop where
 sub:∀n:Nat,a[n]?=some true->b[n]?=some true
 all:∀u∈vs,u.1=true->b[u.2.toNat]?=some true
 clo:∀(n:Nat)(row:List (Bool×Int)),b[n]?=some true->a[n]?=some true\/(rws[n]?=some row->∀u∈row,u.1=true->b[u.2.toNat]?=some true)
 snd:∀P:Nat->Prop,(∀(n:Nat)(row:List (Bool×Int)),rws[n]?=some row->P n->∀u∈row,u.1=true->P u.2.toNat)->(∀u∈vs,u.1=true->P u.2.toNat)->(∀n:Nat,a[n]?=some true->P n)->∀n:Nat,b[n]?=some true->P n
def y7.refl{rws:List (List (Bool×Int))}(h:∀u∈vs,u.1=true->a[u.2.toNat]?=some true):y7 rws vs a a:=⟨fun _ h=>h,h,fun _ _ h=>.inl h,fun _ _ _ h=>h⟩
def y7.nil{rws:List (List (Bool×Int))}{a:List Bool} :y7 rws [] a a:=.refl nofun
def y7.trans{rws:List (List (Bool×Int))}{vs C:List (Bool×Int)}{a b c:List Bool}(w:y7 rws vs a b)(x:y7 rws C b c):y7 rws (vs++C) a c:=
 ⟨fun n h=>x.sub n (w.sub n h),fun u o h1=>(jS.1 o).elim (fun h=>x.sub _ (w.all u h h1)) fun h=>x.all u h h1,fun n row h=>(x.clo n row h).elim (fun h=>(w.clo n row h).imp id fun k e u o h1=>x.sub _ (k e u o h1)) .inr,fun P h1 t D=>x.snd P h1 (fun u o=>t u (List.mem_append_right _ o)) (w.snd P h1 (fun u o=>t u (List.mem_append_left _ o)) D)⟩
def y7.one{rws:List (List (Bool×Int))}{a b:List Bool}(G:n<a.length)(C:rws[n]?=some row)(w:y7 rws row (a.set n true) b):y7 rws [(true,(n:Int))] a b:=by
 have st:∀m:Nat,(a.set n true)[m]?=some true↔m=n\/a[m]?=some true:=fun m=>by rw[fL];by_cases e:n=m;rw[bM e,bM G];exact⟨fun _=>.inl e.symm,fun _=>rfl⟩;rw[bU e];exact⟨.inr,fun h=>h.elim (fun h=>absurd h.symm e) id⟩
 refine⟨fun m h=>w.sub m ((st m).2 (.inr h)),fun u o _=>?_,fun m r h=>?_,fun P h1 t E m h=>w.snd P h1 ?_ (fun k D=>?_) m h⟩;cases List.mem_singleton.1 o;exact w.sub _ ((st _).2 (.inl rfl))
 .rcases w.clo m r h with h|h
  .rcases(st m).1 h with e|e;subst e;exact .inr fun e u o h1=>by rw[C] at e;cases e;exact w.all u o h1
   exact .inl e
  exact .inr h
 exact h1 n row C (t _ (List.mem_singleton.2 rfl) rfl);rcases(st k).1 D with e|e;subst e;exact t _ (List.mem_singleton.2 rfl) rfl;exact E k e
structure MZ(h0 h:az)(aB N F M nb d:Nat)(need:List Bool)(ws:List SV)(rws:List (List (Bool×Int))):Prop where
 g:ay aZ h0 h
 nn:h0.aw<=nb
 hN:dg h N [.slice (some ⟨nb,0,none⟩) aB aB]
 hb:dg h nb (ja.flat need)
 nl:need.length=aB
 hF:dg h F [.slice (some ⟨d,0,none⟩) aB aB]
 hM:dg h M [.func (.func 131) #[] #[.pointer (some ⟨N,0,none⟩),.pointer (some ⟨F,0,none⟩),.pointer (some ⟨M,0,none⟩)]]
 hd:dg h d (rj.flat ws)
 wl:ws.length=aB
 rl:rws.length=aB
 u4:∀(n:Nat)(w:SV)(row:List (Bool×Int)),ws[n]?=some w->rws[n]?=some row->FL aB h nb nb (nb+1) w row
 ne:N≠nb/\F≠nb/\M≠nb/\d≠nb
section
variable{h0:az}{aB N F M nb d:Nat}{ws:List SV}{rws:List (List (Bool×Int))}
def MZ.grow{h h':az}{need:List Bool}(w:MZ h0 h aB N F M nb d need ws rws)(g:ay (· =nb) h h'){need':List Bool}(K:dg h' nb (ja.flat need'))(C:need'.length=aB):MZ h0 h' aB N F M nb d need' ws rws:=by obtain⟨I,h1⟩:=w.hN;obtain⟨t,J⟩:=w.hF;obtain⟨u,E⟩:=w.hM;obtain⟨U,H⟩:=w.hd;have o:=w.g.ok;obtain⟨G,Q,V,W⟩:=w.ne;exact⟨w.g.trans' g ai (fun x Z e=>av w.nn),w.nn,⟨I,g.get o h1 G⟩,K,C,⟨t,g.get o J Q⟩,⟨u,g.get o E V⟩,⟨U,g.get o H W⟩,w.wl,w.rl,fun n x row h1 D=>(w.u4 n x row h1 D).grow o g,w.ne⟩
def MZ.ck{h h':az}{need:List Bool}(w:MZ h0 h aB N F M nb d need ws rws)(g:ay aZ h h'):MZ h0 h' aB N F M nb d need ws rws:=by obtain⟨s,o⟩:=w.hb;exact w.grow g.ck ⟨s,g.get w.g.ok o⟩ w.nl
def HE(h0 h:az)(aB N F M nb d:Nat)(need:List Bool)(ws:List SV)(rws:List (List (Bool×Int)))(v:Bool×Int)(h':az):Prop:=ay (· =nb) h h'/\∃o,MZ h0 h' aB N F M nb d o ws rws/\jb o<=jb need/\y7 rws [v] need o
def MkZ(h0 h1:az)(aB N F M nb d:Nat)(ws:List SV)(rws:List (List (Bool×Int)))(k:Nat)(w:SV)(row:List (Bool×Int))(n0:List Bool)(m:Nat)(e':Env)(h':az):Prop:=
 ∃(j:Nat) (need:List Bool),m=row.length-j/\j<=row.length/\cm e' 3 M/\bH e' 25=w.v/\bJ e' 26 row.length/\bJ e' 27 j/\ay (· =nb) h1 h'/\MZ h0 h' aB N F M nb d need ws rws/\jb need<=k/\y7 rws (row.take j) n0 need
def I0(hr:aB<1000000):∀(k:Nat)(h:az)(need:List Bool)(v:Bool×Int),MZ h0 h aB N F M nb d need ws rws->Dc aB v->jb need<=k->bc FF 131 [.agg ⟨[.bool v.1,.int .i64 v.2]⟩,.pointer (some ⟨N,0,none⟩),.pointer (some ⟨F,0,none⟩),.pointer (some ⟨M,0,none⟩)] h (fun _ h'=>HE h0 h aB N F M nb d need ws rws v h'):=by
 intro k;induction k with
 |zero=>
  intro h need v w hv hk;obtain⟨rg,n⟩:=v;have C:=w.g.ok;refine bc.of yC ?_;unfold qY;cases rg with
  |false=>
   simp;exact⟨(ay.refl C).new _ _,need,w.ck ((ay.refl C).new _ _),fh _,.refl fun u Q h1=>by cases List.mem_singleton.1 Q;cases h1⟩
  |true=>
   obtain⟨J,C0⟩:=hv rfl;dsimp only at J C0;obtain⟨n,rfl⟩:∃n':Nat,n=n':=⟨n.toNat,ab⟩;have G:n<aB:=ab
   obtain⟨s1,U⟩:=w.hN;obtain⟨s2,D⟩:=w.hb;have oN:=C.cn U;have W:=C.cn D;obtain⟨t,H⟩:=aV need n (by rw[w.nl];exact G);have rt:=rI D H;cases t with
   |true=>
    simp[G,rt,bw,ed,oN,W,aF U,-ax];exact⟨(ay.refl C).new _ _,need,w.ck ((ay.refl C).new _ _),fh _,.refl fun u Q _=>by cases List.mem_singleton.1 Q;exact H⟩
   |false=>
    have:=zz H;omega
 |succ k ih=>
  intro h need v w hv hk;obtain⟨rg,n⟩:=v;have C:=w.g.ok;refine bc.of yC ?_;unfold qY;cases rg with
  |false=>
   simp;exact⟨(ay.refl C).new _ _,need,w.ck ((ay.refl C).new _ _),fh _,.refl fun u Q h1=>by cases List.mem_singleton.1 Q;cases h1⟩
  |true=>
   obtain⟨J,C0⟩:=hv rfl;dsimp only at J C0;obtain⟨n,rfl⟩:∃n':Nat,n=n':=⟨n.toNat,ab⟩;have G:n<aB:=ab
   obtain⟨s1,U⟩:=w.hN;obtain⟨s2,D⟩:=w.hb;have oN:=C.cn U;have W:=C.cn D;obtain⟨t,H⟩:=aV need n (by rw[w.nl];exact G);have rt:=rI D H;cases t with
   |true=>
    simp[G,rt,bw,ed,oN,W,aF U,-ax];exact⟨(ay.refl C).new _ _,need,w.ck ((ay.refl C).new _ _),fh _,.refl fun u Q _=>by cases List.mem_singleton.1 Q;exact H⟩
   |false=>
    obtain⟨s3,hF⟩:=w.hF;have oF:=C.cn hF;obtain⟨s5,hd⟩:=w.hd;have od:=C.cn hd;obtain⟨x,hx⟩:=aV ws n (by rw[w.wl];exact G);have KT:n+1<=need.length:=by rw[w.nl];omega
    have rx:=CK hd hx;simp[-ax] at rx;have fl:=zz H;obtain⟨_,nF,_,nD⟩:=w.ne;have nH:¬h.aw=nb:=av W.lt
    simp[G,rt,bw,ed,cH,oN,W,oF,od,aF U,aF hF,rx,D,KT,nF,nD,nH,-ax];obtain⟨row,hrw⟩:=aV rws n (by rw[w.rl];exact G);obtain⟨SU,yb,hrv,Ff⟩:=w.u4 n x row hx hrw;have xG:x.l=row.length:=by obtain⟨a,cap,e,_⟩:=SU;simp at e;exact e.2.1
    have g1:ay aZ h (aK h [.bool true,.int .i64 n] 0):=(ay.refl C).new _ _;have Pk:=g1.get C D;have g2:ay (· =nb) (aK h [.bool true,.int .i64 n] 0) (put (aK h [.bool true,.int .i64 n] 0) nb n (ja.flat need) [.bool true] 0):=aY g1.ok Pk;have w2:=(w.ck g1).grow g2 (need':=need.set n true) ⟨(aK h [.bool true,.int .i64 n] 0).clock,by rw[aP,JW need n true ab]⟩ (by simp[w.nl]);have g12:ay (· =nb) h (put (aK h [.bool true,.int .i64 n] 0) nb n (ja.flat need) [.bool true] 0):=g1.ck.trans g2;refine aO.loop (MkZ h0 h aB N F M nb d ws rws (jb (need.set n true)) x row (need.set n true)) ?_ (n:=row.length) ⟨0,_,rfl,ab,ae,ae,au xG,ae,g12,w2,fh _,.nil⟩;rintro m e' h'⟨j,o,rfl,hj,q3,E,Ze,ML,g',w',E7,I⟩;unfold vI;by_cases bk:j<row.length
    .have wj:=cg ((j:Int)+1) ab ab;have Kk:row[j]?=some row[j]:=g_ bk;have Z:=Be bk;generalize row[j]=u at Kk Z;have awb:bj cC h' x.v row:=Eo SU C g' (fun eQ b D=>(Ff eQ b D).1);obtain⟨b2,YN,ah2,K,_,_,cZ⟩:=awb.read Kk;have r0:=cZ 0 2 ag;simp[-ax] at r0 K;simp at E;rw[K.1,xG] at E;have bS:=w'.g.ok;obtain⟨s4,hM⟩:=w'.hM;have oM:=bS.cn hM;simp[q3,E,Ze,ML,bk,r0,-ax,aH,cH,bw,aF hM,oM];refine bm.cut (fun h1=>ay aZ h' h1) ((ay.refl bS).var _ _) ?_;intro h3 g3;have w3:=w'.ck g3;refine bm.e_ (V:=fun _ h'=>HE h0 h3 aB N F M nb d o ws rws u h') ?_ ?_
     have V1:dU FF (.func (.func 131) #[] #[.pointer (some ⟨N,0,none⟩),.pointer (some ⟨F,0,none⟩),.pointer (some ⟨M,0,none⟩)]) [.agg ⟨[.bool u.1,.int .i64 u.2]⟩] h3 (fun _ h'=>HE h0 h3 aB N F M nb d o ws rws u h'):=dU.func (aj (ih h3 o u w3 (hrv u Z) ab));simpa using V1;rintro _ h4⟨g4,Jc,w4,hf4,mk4⟩;simp[ML,wj];exact⟨row.length-(j+1),ab,j+1,Jc,rfl,bk,au q3,by simp[E,K.1,xG],au Ze,ae,(g'.trans g3.ck).trans g4,w4,ab,by rw[lg,Kk];exact I.trans mk4⟩
    .have:j=row.length:=ab
     subst this;simp[Ze,ML];rw[jT] at I;exact⟨g',o,w',ab,.one KT hrw I⟩
end
section
variable{h0:az}{aB N F M nb d:Nat}{ws:List SV}{rws:List (List (Bool×Int))}
def NdZ(rws:List (List (Bool×Int)))(vs:List (Bool×Int))(n0:List Bool)(aB nb:Nat)(h:az):Prop:=∃need:List Bool,(dg h nb (ja.flat need))/\need.length=aB/\y7 rws vs n0 need
def MZ.nd(w:MZ h0 h aB N F M nb d need ws rws):NdZ rws [] need aB nb h:=⟨need,w.hb,w.nl,.nil⟩
def MZ.re{need n0:List Bool}(w:MZ h0 h aB N F M nb d need ws rws)(g:ay (· =nb) h h')(k:NdZ rws vs n0 aB nb h'):∃o,MZ h0 h' aB N F M nb d o ws rws/\y7 rws vs n0 o:=by obtain⟨o,h1,t,u⟩:=k;exact⟨o,w.grow g h1 t,u⟩
def MZ.to{need n0:List Bool}(w:MZ h0 h aB N F M nb d need ws rws)(k:y7 rws vs n0 need):NdZ rws vs n0 aB nb h:=⟨need,w.hb,w.nl,k⟩
def NdJ(rws:List (List (Bool×Int)))(vs:List (Bool×Int))(n0:List Bool)(t:az)(aB nb:Nat)(e:Env)(_B j:Nat)(o:az):Prop:=ay (· =nb) t o/\o.tr.get t.aw=some (.loop e [38] Xk LC .ready)/\NdZ rws (vs.take j) n0 aB nb o
def Ow{o:az}{C:List Bool}(dt:cr h0)(hr:aB<1000000)(W:MZ h0 o aB N F M nb d C ws rws)(hX:fC o X (fN x A) sX)(nX:X≠nb)(sA:aD vR 2 h0 A.v x.args)(x5:x.args.length<1900000)(hv:∀v∈dH x,Dc aB v)(f7:cm e 7 M)(f37:bH e 37=.func (.func 192) #[] #[.pointer (some ⟨X,0,none⟩)])(Q:∀h',ay (· =nb) o h'->NdZ rws (dH x) C aB nb h'->QQ .normal e h'):aO FF (.Ko (.tmp 37) [38] Xk LC) e o QQ:=by
 have vG:=W.g.ok;have lX:=(vG.cn hX).lt;obtain⟨sB,hB⟩:=W.hb;have lB:=(vG.cn hB).lt;have ln:=W.nn;obtain⟨g0,QF⟩:=EY vG e [38] Xk LC;have uU:(o.new (.loop e [38] Xk LC .ready)).aw=o.aw+1:=rfl;refine aO.Ko (first:= #[]) (caps:= #[.pointer (some ⟨X,0,none⟩)]) (aj f37) ?_;generalize o.new (.loop e [38] Xk LC .ready)=hL at*;have up:∀t,ay (· =nb) o t->ay aZ h0 t:=fun t g=>W.g.trans' g ai (fun x hx e=>ab);have H:=CU (h:=hL) dt sA ab (X:=X) (y:=.func (.yield o.aw) #[] #[]) (NdJ rws (dH x) C o aB nb e) (fun b=>b=nb\/b=o.aw) (fun _=>False)
  (fun _ _ t D=>⟨up t D.1,sX,D.1.get vG hX nX⟩)
  (fun _ _ t h3 D g=>by obtain⟨u,G,need,⟨s,J⟩,E⟩:=D;exact⟨u.trans g.ck,g.get u.ok G,need,⟨s,g.get u.ok J⟩,E⟩)
  (by rintro b (rfl|rfl)<;>omega) ?_ (W.g.trans g0) ⟨sX,g0.get vG hX⟩
  (fun h1 g=>⟨(g0.trans g).ck,g.get g0.ok QF,C,⟨sB,(g0.trans g).get vG hB⟩,W.nl,by rw[List.take_zero];exact .nil⟩)
 .refine bc.mono (aj H) ?_;rintro v h' D;have hh':∃B:Nat,NdJ rws (dH x) C o aB nb e B (dH x).length h':=by
   first|exact D|exact⟨0,D⟩
  obtain⟨_,u,G,need,⟨s,J⟩,E⟩:=hh';rw[jT] at E;unfold vV;rw[G];have gd:ay (· =o.aw) h' (DE h' o.aw):=ir u.ok o.aw;exact Q _ (u.trans' gd ai (fun x hx e=>ab)) ⟨need,⟨s,gd.get u.ok J ab⟩,E⟩
 .rintro Bq k v t hk hB1 Wh⟨u,G,J⟩;have Ye:=hv v (cN hk);refine(CO (S:=fun b=>b=nb) (K:=fun h'=>ay (· =nb) o h'/\NdZ rws ((dH x).take (k+1)) C aB nb h') (Z:=fun _=>False) u.ok ab G ?_ ?_ (fun _ _ h=>h.elim)).mono ?_
  .unfold Xk;simp;have I:ay aZ t (put (aK t [.bool false,.int .i64 0] 0) t.aw 0 [.bool false,.int .i64 0] [.bool v.1,.int .i64 v.2] 0):=(ay.refl u.ok).var _ _;have hV:(put (aK t [.bool false,.int .i64 0] 0) t.aw 0 [.bool false,.int .i64 0] [.bool v.1,.int .i64 v.2] 0).tr.get t.aw=some (.bZ [.bool v.1,.int .i64 v.2] false 0 t.clock):=ae
   generalize put (aK t [.bool false,.int .i64 0] 0) t.aw 0 [.bool false,.int .i64 0] [.bool v.1,.int .i64 v.2] 0=h3 at*;refine⟨I,fun w g4=>?_⟩;have lL2:o.aw<t.aw:=u.ok.wf _ _ G;have t4:ay (· =nb) o w:=(u.trans I.ck).trans' g4 ai (fun x hx e=>ab);have E:NdZ rws ((dH x).take k) C aB nb w:=by obtain⟨need,⟨s,a⟩,b⟩:=J;exact⟨need,⟨s,g4.get I.ok (I.get u.ok a) ab⟩,b⟩
   obtain⟨Jc,W4,m4⟩:=W.re t4 E;have hV4:=g4.get I.ok hV ab;obtain⟨sM,hM4⟩:=W4.hM;unfold LC;simp[f7,hM4,hV4];refine bm.e_ (V:=fun _ h'=>HE h0 w aB N F M nb d Jc ws rws v h') ?_ ?_
   have V1:dU FF (.func (.func 131) #[] #[.pointer (some ⟨N,0,none⟩),.pointer (some ⟨F,0,none⟩),.pointer (some ⟨M,0,none⟩)]) [.agg ⟨[.bool v.1,.int .i64 v.2]⟩] w (fun _ h'=>HE h0 w aB N F M nb d Jc ws rws v h'):=dU.func (aj (I0 hr _ w Jc v W4 Ye (fh _)));simpa using V1;rintro _ h5⟨U,aAr,W5,_,m5⟩;simp;exact⟨U,t4.trans U,W5.to (by rw[lg,hk];exact m4.trans m5)⟩
  rintro w h5⟨z1,need,⟨s,z2⟩,z3⟩ _ g;exact⟨z1.trans' g ai (fun x hx e=>ab),need,⟨s,g.get z1.ok z2 ab⟩,z3⟩;rintro r h5⟨U,⟨rfl,hl5,k1,k2⟩|⟨_,_,z⟩⟩;exact⟨U.cY (fun b _ h=>.inl h),.inl ⟨rfl,k1,hl5,k2⟩⟩;exact z.elim
end
section
variable{h0:az}{aB N F M nb d:Nat}{ws:List SV}{rws:List (List (Bool×Int))}
def Mp(aI:Int)(x:GI):List (Bool×Int):=if dW aI x.op x.a.1 x.a.2 x.b.1 x.b.2 then [] else dH x
def RQ(aI:Int)(b:GB):List (Bool×Int):=b.list.flatMap (Mp aI)++[b.on]
def vu{f:α->List β}{xs:List α}{x:α}(o:xs[j]?=some x):(xs.take (j+1)).flatMap f=(xs.take j).flatMap f++f x:=by rw[lg,o,List.flatMap_append];simp
def asv(rws:List (List (Bool×Int)))(aI:Int)(xs:List GI)(n0:List Bool)(h:az)(aB nb:Nat)(e:Env)(m:Nat)(e':Env)(h':az):Prop:=
 ∃j:Nat,m=xs.length-j/\j<=xs.length/\aM [11,12,29,30,31,32,33,34,35,36,37,38,42] e e'/\bJ e' 29 j/\ay (· =nb) h h'/\NdZ rws ((xs.take j).flatMap (Mp aI)) n0 aB nb h'
def Ov(dt:cr h0)(hr:aB<1000000)(w:MZ h0 h aB N F M nb d need ws rws)(hw:0<=aI/\aI<1000000000){L:SV}{xs:List GI}(hL:aD (iR h0) 8 h0 L.v xs)(BI:∀x∈xs,x.args.length<1900000/\∀v∈dH x,Dc aB v)(hl:xs.length<1000000)(f0:bJ e 0 aI)(f7:cm e 7 M)(Z:bH e 27=L.v)(f28:bJ e 28 xs.length)(f29:bJ e 29 0)(K:∀W h',ay (· =nb) h h'->NdZ rws (xs.flatMap (Mp aI)) need aB nb h'->aM [11,12,29,30,31,32,33,34,35,36,37,38,42] e W->QQ (.exit 2) W h'):aO FF (.loop rD) e h QQ:=by
 have jt:=aD.len hL;have C4:=w.g.ok;have ln:=w.nn;refine aO.loop (asv rws aI xs need h aB nb e) ?_ (n:=xs.length) ⟨0,rfl,ab,aM.refl _ _,f29,.refl C4,w.nd⟩;rintro m W h'⟨j,rfl,hj,C,o,g,U⟩;have q0:=C.at f0;have q7:=C.at f7;have ML:=C.at Z;have JA:=C.at f28;obtain⟨J,I,mk⟩:=w.re g U;unfold rD;by_cases E:j<xs.length
 .have wj:=cg ((j:Int)+1) ab ab;have G:xs[j]?=some xs[j]:=g_ E;have hm:=Be E;generalize xs[j]=x at G hm;obtain⟨x5,hv⟩:=BI x hm;obtain⟨bb,off,c,SM,_,_,⟨A,rfl,sA⟩,_,cZ⟩:=aD.later dt hL G;have r0:=cZ h' I.g 0 8 ag;simp[aJ,-ax] at r0;simp at ML;rw[SM,jt] at ML;simp[q0,ML,JA,o,E,r0,-ax,aH];refine bm.cut (fun D=>ay aZ h' D/\dg D h'.aw (fN x A)) ?_ ?_
  exact⟨(ay.refl I.g.ok).var _ _,_,aP _ _ _ _ _ _⟩;rintro D⟨g5,s5,oJ⟩;have w5:=I.ck g5;refine bm.call (V:=fun v h'=>v=.bool (dW aI x.op x.a.1 x.a.2 x.b.1 x.b.2)/\ay aZ D h') (by simpa [aJ] using JC D w5.g.ok aI x.op x.dst x.a.2 x.b.2 x.fn x.a.1 x.b.1 A.a A.l A.c hw) ?_;rintro _ t⟨rfl,H⟩;have u:=w5.ck H;have Ge:=(g.trans g5.ck).trans H.ck;have X8:Mp aI x=if dW aI x.op x.a.1 x.a.2 x.b.1 x.b.2 then [] else dH x:=rfl
  cases hq:dW aI x.op x.a.1 x.a.2 x.b.1 x.b.2 with
  |true=>
   simp[o,wj];refine⟨xs.length-(j+1),ab,j+1,rfl,E,?_,ae,Ge,u.to (by rw[vu G,X8,hq];simpa using mk)⟩
   exact aq
  |false=>
   have po:=H.get w5.g.ok oJ;simp[fN,aJ] at po;simp[po];refine bm.call (V:=fun v h'=>v=.func (.func 192) #[] #[.pointer (some ⟨t.aw,0,none⟩)]/\h'=aK t (fN x A) 0) (by simpa [fN,aJ] using FG t x A) ?_;rintro _ h7⟨rfl,Q⟩;have g7:ay aZ t h7:=by rw[Q];exact aN u.g.ok _ _
   have LZ:h7.tr.get t.aw=some (.bZ (fN x A) false 0 0):=by rw[Q];exact bz _ _ _
   clear Q;have w7:=u.ck g7;have lB:nb<t.aw:=by obtain⟨_,h⟩:=u.hb;exact u.g.ok.wf _ _ h
   simp;refine Ow dt hr w7 LZ ab sA x5 hv (au q7) ae ?_;intro h8 g8 k8;obtain⟨aAs,w8,mk8⟩:=w7.re g8 k8;simp[o,wj];refine⟨xs.length-(j+1),ab,j+1,rfl,E,?_,ae,(Ge.trans g7.ck).trans g8,w8.to (by rw[vu G,X8,hq];exact mk.trans mk8)⟩
   exact aq
 .have:j=xs.length:=ab
  subst this;simp[JA,o];rw[jT] at U;exact K _ _ g U (C.set)
def asw(rws:List (List (Bool×Int)))(bs:List GB)(n0:List Bool)(h:az)(aB nb N M:Nat)(aI:Int)(B:SV)(m:Nat)(e':Env)(h':az):Prop:=
 ∃j:Nat,m=bs.length-j/\j<=bs.length/\bJ e' 0 aI/\cm e' 5 N/\cm e' 7 M/\bH e' 20=B.v/\bJ e' 21 bs.length/\bJ e' 22 j/\ay (· =nb) h h'/\NdZ rws ((bs.take j).flatMap (RQ aI)) n0 aB nb h'
def VL(aI:Int)(bs:List GB)(aB:Nat)(h:az)(v:Value)(h':az):Prop:=ay aZ h h'/\∃d,v=.slice (some ⟨d,0,none⟩) aB aB/\h.aw<=d/\NdZ (tkB (List.replicate aB []) bs) (bs.flatMap (RQ aI)) (List.replicate aB false) aB d h'
def Je(dt:cr h0)(hr:aB<1000000)(w:MZ h0 h aB N F M nb d need ws rws)(hw:0<=aI/\aI<1000000000)(hB:qg h0 B bs)(T:vg aB bs)(f0:bJ e 0 aI)(f5:cm e 5 N)(f7:cm e 7 M)(f20:bH e 20=B.v)(Q:bJ e 21 bs.length)(f22:bJ e 22 0)(K:∀e' h',ay (· =nb) h h'->NdZ rws (bs.flatMap (RQ aI)) need aB nb h'->cm e' 5 N->QQ (.exit 0) e' h'):aO FF (.loop rE) e h QQ:=by
 have dT:=aD.len hB;have qW:=T.len;refine aO.loop (asw rws bs need h aB nb N M aI B) ?_ (n:=bs.length) ⟨0,rfl,ab,f0,f5,f7,f20,Q,f22,.refl w.g.ok,w.nd⟩;rintro m e' h'⟨j,rfl,hj,q0,q5,q7,o,D,C,g,Z⟩;obtain⟨U,G,mk⟩:=w.re g Z;unfold rE;by_cases J:j<bs.length
 .have wj:=cg ((j:Int)+1) ab ab;have hx:bs[j]?=some bs[j]:=g_ J;have I:=Be J;generalize bs[j]=x at hx I;obtain⟨bb,off,c,fp,_,_,⟨P,L,T',rfl,sP,sL,sT⟩,_,cZ⟩:=aD.later dt hB hx;have r0:=cZ h' G.g 0 6 ag;have jt:=aD.len sL;simp[-ax] at r0;simp at o;rw[fp,dT] at o;simp[o,D,C,J,r0,-ax,aH];refine aO.cut (fun h1=>ay aZ h' h1/\dg h1 h'.aw [P.v,L.v,.int .i64 x.kind,.bool x.on.1,.int .i64 x.on.2,T'.v]) ⟨(ay.refl G.g.ok).var _ _,_,aP _ _ _ _ _ _⟩ ?_;rintro h2⟨g2,s3,hX⟩;have w2:=G.ck g2;have lB:nb<h'.aw:=by obtain⟨_,h⟩:=G.hb;exact G.g.ok.wf _ _ h
  refine Ov dt hr w2 hw sL (fun y hy=>((T.li x I).2 y hy).2) (T.li x I).1 (au q0) (au q7) ae (au jt) ae ?_;intro e3 H g3 k3 u;obtain⟨E,w3,mk3⟩:=w2.re g3 k3;have eD:=g3.get g2.ok hX ab;obtain⟨sM,W⟩:=w3.hM;simp at eD;have k0:=u.at (t:=0) (ak q0);have k5:=u.at (t:=5) (ak q5);have k7:=u.at (t:=7) (ak q7);have k9:cm e3 9 h'.aw:=u.at ae;have k20:=u.at (t:=20) (ak o);have k21:=u.at (t:=21) (ak D);have k22:=u.at (t:=22) (ak C);simp[k7,k9,W,eD];refine bm.e_ (V:=fun _ h'=>HE h0 H aB N F M nb d E ws rws x.on h') ?_ ?_
  have V1:dU FF (.func (.func 131) #[] #[.pointer (some ⟨N,0,none⟩),.pointer (some ⟨F,0,none⟩),.pointer (some ⟨M,0,none⟩)]) [.agg ⟨[.bool x.on.1,.int .i64 x.on.2]⟩] H (fun _ h'=>HE h0 H aB N F M nb d E ws rws x.on h'):=dU.func (aj (I0 hr _ H E x.on w3 (T.on x I) (fh _)));simpa using V1;rintro _ h4⟨g4,Jc,w4,_,mk4⟩;simp[k22,wj];exact⟨bs.length-(j+1),ab,j+1,rfl,J,au k0,au k5,au k7,by simp[k20,fp,dT],au k21,ae,((g.trans g2.ck).trans g3).trans g4,w4.to (by rw[vu hx];exact mk.trans (mk3.trans mk4))⟩
 .have:j=bs.length:=ab
  subst this;simp[D,C];rw[jT] at Z;exact K _ _ g Z (au q5)
end
def Ou(G:cr h){aI p:Int}(hw:0<=aI/\aI<1000000000){name:ByteArray}{aB:Nat}(J:qg h B bs)(T:vg aB bs)(hr:aB<1000000):bc FF 71 [.int .i64 aI,.agg ⟨aC name p aB B⟩] h (VL aI bs aB h):=by
 have dT:=aD.len J;have r1:roomy aB=true:=by simp[roomy];omega
 have hz:jn [Value.bool false] aB=ja.flat (List.replicate aB false):=Ay ja false rfl aB;refine bc.of Kz ?_;unfold Bz;have Z:¬h.aw=h.aw+1+1:=ab
 simp[aC,r1,hz,Z];refine bm.cut (fun h1=>ay aZ h h1/\h1.tr.get h.aw=some (.bZ (aC name p aB B) false 0 0)/\(dg h1 (h.aw+1) (ja.flat (List.replicate aB false)))/\(dg h1 (h.aw+1+1) [.slice (some ⟨h.aw+1,0,none⟩) aB aB])/\h1.aw=h.aw+3) ?_ ?_;refine⟨?_,by simp[aC,Z],⟨0,ae⟩,⟨h.clock,by simp[bg]⟩,ae⟩;exact((((ay.refl G).new _ _).new _ _).new _ _).put ⟨0,ae⟩ (.inl ab);rintro h1⟨D,yD,⟨s1,Pk⟩,⟨s2,H⟩,hn1⟩;simp[aC] at yD;refine bm.call (V:=aaS aB h.aw bs h1) (by simpa [aC] using Sp G D (name:=name) (p:=p) J T hr) ?_;rintro _ u⟨d,ws,rfl,C⟩;have t:=C.g;have jz:=t.get D.ok yD;have pz:=t.get D.ok Pk;have U:=t.get D.ok H;have E:=t.ok.cn jz;have lN2:=(t.ok.cn U).lt;simp[jz,E];obtain⟨sd,W⟩:=C.hd;have od2:=(t.ok.cn W).lt;have ln:=D.aw;refine aO.cut (fun h3=>MZ h h3 aB (h.aw+1+1) u.aw (u.aw+1) (h.aw+1) d (List.replicate aB false) ws (tkB (List.replicate aB []) bs)) ?_ ?_
 have g3:ay aZ u (aK (put (aK u [.slice none 0 0] 0) u.aw 0 [.slice none 0 0] [.slice (some ⟨d,0,none⟩) aB aB] 0) [.nilFunc] 0):=((ay.refl t.ok).var _ _).new _ _;have w:=g3.put (b:=u.aw+1) (off:=0) (cs:=[.nilFunc]) (o:=0) (vs:=[.func (.func 131) #[] #[.pointer (some ⟨h.aw+1+1,0,none⟩),.pointer (some ⟨u.aw,0,none⟩),.pointer (some ⟨u.aw+1,0,none⟩)]]) ⟨0,ae⟩ (.inl ab);have n5:=C.n0;refine⟨(D.trans t).trans w,ab,⟨_,w.get t.ok U⟩,⟨_,w.get t.ok pz⟩,ae,⟨u.clock,by simp[bg]⟩,⟨_,aP _ _ _ _ _ _⟩,⟨_,w.get t.ok W⟩,C.len,C.rl,fun n x row hx Yf=>?_,ab⟩;obtain⟨q1,q2,q3,q4⟩:=C.u4 n x row hx Yf;refine⟨q1.ck t.ok w,q2,q3,fun eQ b hb=>?_⟩;have:=(q4 eQ b hb).2;omega
 intro h3 Q;refine Je G hr Q hw J T ae ae ae ae (au dT) ae ?_;intro e4 h4 w k4 q5;obtain⟨Jc,K,_⟩:=Q.re w k4;obtain⟨s4,I⟩:=K.hN;simp[q5,I];exact⟨K.g,h.aw+1,rfl,ab,k4⟩
section
variable{β:Type}
def O0(ws:List (Nat×β))(r:List β):List β:=ws.foldl (fun r w=>r.set w.1 w.2) r
def Sc{n:Nat} :∀ {ws:List (Nat×β)} {r:List β},n∉ws.map (·.1)->(O0 ws r)[n]?=r[n]?
 |[],_,_=>rfl
 |w::ws,r,h=>by have h1:n≠w.1:=fun e=>h (by rw[e];exact h_);have:=Sc (ws:=ws) (r:=r.set w.1 w.2) fun e=>h (uQ _ e);rw[fL,bU (Ne.symm h1)] at this;exact this
def WW{n:Nat}{v:β} :∀ {ws:List (Nat×β)} {r:List β},(O0 ws r)[n]?=some v->(n,v)∈ws\/r[n]?=some v
 |[],_,h=>.inr h
 |w::ws,r,h=>by rcases WW (ws:=ws) (r:=r.set w.1 w.2) h with h|h;exact .inl (uQ _ h);rw[fL] at h;by_cases e:w.1=n;rw[bM e] at h;split at h;cases h;exact .inl (by rw[<-e];exact h_);cases h;rw[bU e] at h;exact .inr h
def Sb{w:Nat×β} :∀ {ws:List (Nat×β)} {r:List β},(ws.map (·.1)).Nodup->w.1<r.length->w∈ws->(O0 ws r)[w.1]?=some w.2
 |x::ws,r,nd,o,h=>by rw[xX,List.nodup_cons] at nd;rcases List.mem_cons.1 h with rfl|h;have:=Sc (ws:=ws) (r:=r.set w.1 w.2) nd.1;rw[fL,bM rfl,bM o] at this;exact this;exact Sb (ws:=ws) (r:=r.set x.1 x.2) nd.2 (aj o) h
end
def wrB(b:GB):List (Nat×List (Bool×Int)):=b.bD.map (fun q=>(q.dst.toNat,q.row))++(b.list.filter fun x=>decide (0<=x.dst)).map fun x=>(x.dst.toNat,dH x)
def adT:∀(xs:List GI)(r:List (List (Bool×Int))),tkX r xs=O0 ((xs.filter fun x=>decide (0<=x.dst)).map fun x=>(x.dst.toNat,dH x)) r
 |[],_=>rfl
 |x::xs,r=>by have e:tkX r (x::xs)=tkX (if x.dst<0 then r else r.set x.dst.toNat (dH x)) xs:=rfl;rw[e,adT xs];by_cases h:x.dst<0;rw[bM h,List.filter_cons_of_neg (by simp;omega)];rw[bU h,List.filter_cons_of_pos (by simp;omega)];rfl
def adR:∀(ps:List GP)(r:List (List (Bool×Int))),tkP r ps=O0 (ps.map (fun q=>(q.dst.toNat,q.row))) r
 |[],_=>rfl
 |q::ps,r=>adR ps _
def adQ:∀(bs:List GB)(r:List (List (Bool×Int))),tkB r bs=O0 (bs.flatMap wrB) r
 |[],_=>rfl
 |b::bs,r=>by have e:tkB r (b::bs)=tkB (tkX (tkP r b.bD) b.list) bs:=rfl;rw[e,adQ bs,adT,adR,List.flatMap_cons];simp only[O0,wrB,List.foldl_append]
structure z6(aI:Int)(bs:List GB)(P:Nat->Prop):Prop where
 rt:∀b∈bs,∀u∈RQ aI b,u.1=true->P u.2.toNat
 li:∀b∈bs,∀x∈b.list,0<=x.dst->P x.dst.toNat->∀u∈dH x,u.1=true->P u.2.toNat
 ph:∀b∈bs,∀q∈b.bD,P q.dst.toNat->∀u∈q.row,u.1=true->P u.2.toNat
structure tD(aI:Int)(bs:List GB)(aB:Nat)(need:List Bool):Prop where
 nl:need.length=aB
 cl:z6 aI bs fun n=>need[n]?=some true
 sd:∀P,z6 aI bs P->∀n:Nat,need[n]?=some true->P n
def tD.eq{aB:Nat}{a b:List Bool}(x:tD aI bs aB a)(y:tD aI bs aB b):a=b:=by
 refine Cy fun n=>?_;have h:a[n]?=some true↔b[n]?=some true:=⟨x.sd _ y.cl n,y.sd _ x.cl n⟩;have e:=x.nl.trans y.nl.symm;by_cases o:n<a.length
 rw[g_ o,g_ (e▸o)] at h⊢;generalize a[n]=p at h;generalize b[n]=q at h;cases p<;>cases q<;>simp at h<;>rfl;rw[wY ab,wY ab]
def ajJ(h:l.Nodup)(n:∀x∈l,0<=x):(l.map Int.toNat).Nodup:=by rw[List.Nodup,List.pairwise_map];exact List.Pairwise.imp_of_mem (fun {a b} ha hb e c=>e (by have:=n a ha;have:=n b hb;omega)) h
def acG{aB:Nat}(T:vg aB bs)(nd:(bs.flatMap qF).Nodup)(U:need.length=aB)(m:y7 (tkB (List.replicate aB []) bs) (bs.flatMap (RQ aI)) (List.replicate aB false) need):tD aI bs aB need:=by
 rw[adQ] at m;have ev:∀b∈bs,∀x∈qF b,0<=x/\x<aB:=fun b o x t=>by rcases jS.1 t with h|h;obtain⟨q,E,rfl⟩:=jo.1 h;exact((T.ph b o).2 q E).1;obtain⟨y,W,rfl⟩:=jo.1 h;have:=Ai.1 W;exact⟨aj this.2,((T.li b o).2 y this.1).1⟩
 have J:∀b,(wrB b).map (·.1)=(qF b).map Int.toNat:=fun b=>by simp[wrB,qF,wV,List.map_map,Function.comp_def]
 have Z:(bs.flatMap wrB).map (·.1)=(bs.flatMap qF).map Int.toNat:=by simp only[List.map_flatMap,J]
 have H:((bs.flatMap wrB).map (·.1)).Nodup:=by rw[Z];exact ajJ nd fun x t=>by obtain⟨b,o,h⟩:=List.mem_flatMap.1 t;exact(ev b o x h).1
 have D:∀b∈bs,∀w∈wrB b,(O0 (bs.flatMap wrB) (List.replicate aB []))[w.1]?=some w.2:=fun b o w G=>Sb H (by
  have:w.1∈(qF b).map Int.toNat:=by rw[<-J];exact EX G
  obtain⟨x,t,e⟩:=jo.1 this;have:=ev b o x t;rw[List.length_replicate];omega) (List.mem_flatMap.2 ⟨b,o,G⟩)
 have up:∀n:Nat,(List.replicate aB false)[n]? ≠some true:=fun n h=>by cases(List.mem_replicate.1 (cN h)).2
 have I:∀(n:Nat)(row:List (Bool×Int)),need[n]?=some true->(O0 (bs.flatMap wrB) (List.replicate aB []))[n]?=some row->∀u∈row,u.1=true->need[u.2.toNat]?=some true:=fun n row h e=>(m.clo n row h).elim (fun h=>absurd h (up n)) fun k=>k e;refine⟨U,⟨fun b o u C h=>m.all u (List.mem_flatMap.2 ⟨b,o,C⟩) h,fun b o x t Q h=>I _ _ h (D b o (x.dst.toNat,dH x) (List.mem_append_right _ (jo.2 ⟨x,Ai.2 ⟨t,aj Q⟩,rfl⟩))),fun b o q E h=>I _ _ h (D b o (q.dst.toNat,q.row) (List.mem_append_left _ (jo.2 ⟨q,E,rfl⟩)))⟩,fun P c=>m.snd P (fun n row e K u C h=>?_) (fun u C h=>?_) fun n h=>absurd h (up n)⟩
 .rcases WW e with e|e;obtain⟨b,o,G⟩:=List.mem_flatMap.1 e;rcases jS.1 G with h1|h1;obtain⟨q,E,e⟩:=jo.1 h1;cases e;exact c.ph b o q E K u C h;obtain⟨x,t,e⟩:=jo.1 h1;cases e;have:=Ai.1 t;exact c.li b o x this.1 (aj this.2) K u C h
  have:=(List.mem_replicate.1 (cN e)).2;rw[this] at C;cases C
 obtain⟨b,o,V⟩:=List.mem_flatMap.1 C;exact c.rt b o u V h
end Go.Proofs.YtdhnndleffachaaGreatDoor
