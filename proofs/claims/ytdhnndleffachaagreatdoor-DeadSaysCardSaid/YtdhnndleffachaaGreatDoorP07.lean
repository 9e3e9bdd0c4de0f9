/- Parts of the proof. -/
import Derived.Test.YtdhnndleffachaaGreatDoorP06
set_option linter.all false
set_option maxHeartbeats 1000000
namespace Go.Proofs.YtdhnndleffachaaGreatDoor
open Go.AI
variable{B L:SV}{K bs g g':List GB}{M R1 R2 U aB i k n n0 sU t:Nat}{QQ:bK->Env->az->Prop}{S:Nat->Prop}{T X x:GB}{a aI:Int}{e:Env}{fs:List GF}{fv:Value}{gs:List GG}{h0 h1:az}{l:List (Int×(Bool×Int))}{name:ByteArray}{pk xs:List Int}{row:List (Bool×Int)}{u:GU}{v:Bool×Int}{ys:List YB}
def ax4(x:GI×SV):XI:=⟨x.1.op,x.1.dst,x.1.a,x.1.b,x.1.fn,x.2⟩
def eJ(need:List Bool)(q:GP):Bool:= !oe need q.dst
def eW(aI:Int)(need:List Bool)(x:GI):Bool:=lq aI x&& !oe need x.dst
def oy(aI:Int)(need:List Bool)(b:GB):GB:= {b with bD:=vD (eJ need) b.bD,list:=vD (eW aI need) b.list}
structure FN(aI:Int)(aB:Nat)(b:GB):Prop where
 pl:b.bD.length<1000000
 ll:b.list.length<1000000
 pd:∀q∈b.bD,0<=q.dst/\q.dst<aB
 xd:∀x∈b.list,x.dst<aB
 q:∀x∈b.list,lq aI x=true->0<=x.dst
def Ao{α β:Type}(f:α->β)(p:β->Bool)(q:α->Bool)(e:∀x,q x=p (f x))(xs:List α):(vD q xs).map f=vD p (xs.map f):=by unfold vD;rw[List.filter_map];congr 1;exact List.filter_congr fun x _=>au e
def StZ(h:az)(n0 aB:Nat)(B:SV)(ys:List YB)(aI:Int)(need:List Bool)(W N F R:Nat)(m:Nat)(e:Env)(h':az):Prop:=
 ∃(j:Nat) (zs:List YB),m=ys.length-j/\j<=ys.length/\cm e 2 W/\cm e 3 F/\cm e 4 R/\cm e 5 N/\bH e 12=B.v/\bJ e 13 ys.length/\bJ e 14 j/\cM h h' n0 B ys B zs/\zs.length=ys.length/\∀(i:Nat)(y z:YB),ys[i]?=some y->zs[i]?=some z->(i<j->z.g=oy aI need y.g)/\(j<=i->z=y)
def Ll{h:az}(C4:cr h)(hn:n0<=h.aw)(O:FZ h n0 B ys)(hw:0<=aI/\aI<1000000000)(dJ:ys.length<1000000)(I:∀y∈ys,FN aI aB y.g){need:List Bool}{W N nb F R:Nat}(k:BU h W N nb aB aI need)(oW:¬cx B ys W)(oN:¬cx B ys N)(Q:¬cx B ys nb)(oF:¬cx B ys F){p r:Int}{sF:Nat}(hF:fC h F (aC name p r B) sF)(f2:cm e 2 W)(f3:cm e 3 F)(f4:cm e 4 R)(f5:cm e 5 N)(f12:bH e 12=B.v)(f13:bJ e 13 ys.length)(f14:bJ e 14 0)(C:∀e' h' zs,cm e' 3 F->cm e' 4 R->cM h h' n0 B ys B zs->zs.map YB.g=(ys.map YB.g).map (oy aI need)->QQ (.exit 0) e' h'):aO FF (.loop wC) e h QQ:=by
 have dT:=O.A.len;refine aO.loop (StZ h n0 aB B ys aI need W N F R) ?_ (n:=ys.length)
  ⟨0,ys,rfl,ab,f2,f3,f4,f5,f12,f13,f14,.refl O C4,rfl,fun i r r' h1 w=>⟨fun h=>ab,fun _=>by rw[h1] at w;cases w;rfl⟩⟩
 rintro m e' h'⟨j,zs,rfl,hj,q2,q3,q4,q5,ED,Hd,xy,T,pA,H⟩;have g:=T.g;have bS:=g.ok;have k':=k.grow C4 g oW oN Q;have nz:=g.get C4 hF oF;have ln:=g.aw;have d:∀ {x:Nat},x<h.aw->¬cx B ys x->¬cx B zs x:=fun hx nx e=>(T.s _ e).elim nx ab;unfold wC;by_cases bk:j<ys.length
 .have wj:=cg ((j:Int)+1) ab ab;obtain⟨y0,u9⟩:=aV ys j bk;obtain⟨y,D⟩:=aV zs j;have e1:=(H j y0 y u9 D).2 (fh _);subst e1;have Iy:=I y (cN u9);have Y:=T.w.at D;obtain⟨bB,cs,oB,sB,fp,Gg,hjB,dQ,cZ,fu⟩:=T.w.A.el D;have Ec:=cZ 0 6 ag;simp[-ax] at Ec;simp at ED;have Cz:=T.w.A.len;rw[fp,Cz,pA] at ED;have PK:=cy fp;have oF':=bS.cn nz;have lF:=C4.wf _ _ hF;have jz:=nz;simp[aC] at jz;rw[fp,Cz,pA] at jz;have aoN:=bS.st _ _ _ _ _ nz;simp[q2,q3,q5,ED,Hd,xy,bk,Ec,-ax,aH,cH,bw,aF jz,oF',aQ];refine cu.cut (fun w=>ay aZ h' w/\dg w h'.aw [y.P.v,y.L.v,.int .i64 y.kind,.bool y.on.1,.int .i64 y.on.2,y.T.v]) ?_ ?_
  exact⟨((ay.refl bS).var _ _).tick,h'.clock,by simp[bg]⟩;rintro w⟨J,sX,eC⟩;have T2:=T.ck J;have k2:=k'.grow bS J (fun h=>h) (fun h=>h) (fun h=>h);have uT:=J.get bS jz;have TQ:=J.get bS Gg;have Y2:=T2.w.at D;obtain⟨⟨_,kW⟩,⟨_,kN⟩,⟨_,kb⟩,_⟩:=k;have lW:=C4.wf _ _ kW;have lN:=C4.wf _ _ kN;have lb:=C4.wf _ _ kb;have oX:¬cx B zs h'.aw:=fun⟨l,e⟩=>av (T.w.lt bS e)
  have nP:∀ {x:Nat},¬cx B zs x->¬bt y.P.v x:=fun nx hx=>nx ⟨some (j,.P),by rw[cz D];exact dq hx⟩;have nL:∀ {x:Nat},¬cx B zs x->¬bt y.L.v x:=fun nx hx=>nx ⟨some (j,.L),by rw[cz D];exact dq hx⟩;have nB:∀ {x:Nat},¬cx B zs x->¬x=bB:=fun nx hx=>nx ⟨none,by rw[hx];exact PK⟩;refine cu.call (V:=ahP iG (fun q=>eJ need q.1) y.P y.ps w) (aj (Ic (E:=iG) (p:=fun q=>eJ need q.1) (y:=.func (.func 73) #[] #[.pointer (some ⟨N,0,none⟩)]) (z0:=(⟨0,[]⟩,cK)) rfl ah5 ah7 J.ok Y2.P (by simpa [YB.g] using Iy.pl) (fun q hq h1 g=>adN (q:=(q.1.dst,q.2)) g.ok (k2.grow J.ok g (nP (d lW oW)) (nP (d lN oN)) (nP (d lb Q))) (Iy.pd q.1 (EX hq))))) ?_;rintro _ h3⟨g3,Z,rfl,anv,hP'⟩;have nbP:∀c,bt y.P.v c->eR B≠some c:=fun c hc e=>by have:=T2.w.tf none (some (j,.P)) c e (by rw[cz D];exact dq hc);cases this
  have A3:=T2.w.A.go J.ok g3 nbP;have k3:=k2.grow J.ok g3 (nP (d lW oW)) (nP (d lN oN)) (nP (d lb Q));have BH:=g3.get J.ok uT (nP (d lF oF));have eD:=g3.get J.ok eC (nP oX);have KN:=g3.get J.ok TQ (fun h=>nbP bB h PK);have aoO:sF<=h'.clock+1:=ab
  have Wl:=dQ 0 1 ag;simp at Wl;have gw1:ay (· =bB) h3 (put h3 bB (j*6) cs [.slice Z.a Z.l Z.c] oB):=aY g3.ok KN;have nBF:=nB (d lF oF);have nBX:=nB oX;simp at eD;simp[BH,eD,aoO,bk,KN,Wl,nBF,nBX,q2,q3,q5,-ax,aF BH,aF eD,aQ,cH];refine cu.cut (fun h4=>ay (· =bB) h3 h4/\h4.tr.get bB=some (.bZ (bg cs (j*6) [.slice Z.a Z.l Z.c]) false oB h3.clock)) ?_ ?_
  exact⟨gw1.tick,aP _ _ _ _ _ _⟩;rintro h4⟨g4,KO⟩;have A4:eo dZ h4 B (zs.set j {y with P:=Z,ps:=y.ps.filter fun q=> !eJ need q.1}):=fu _ 0 [Z.v] ae rfl h4 ⟨_,aj KO⟩;have T4:=T2.aa8 (fun q=> !eJ need q.1) hn D ((g3.cY (fun c _ h=>.inl (dq h))).trans (g4.cY fun c _ h=>.inr (by rw[h];exact PK))) A4 (hP'.go g3.ok g4 fun c hc e=>nbP c (by
   have e:eR y.P=some c:=by rw[<-e];unfold eR;rw[anv]
   rcases Y.P.2 with⟨ha,_⟩|⟨b,o,s,cj,ha,_⟩;simp[eR,ha] at e;rw[cy ha] at e;cases e;exact eY ha) (by rw[hc];exact PK)) anv
  have hjr:j<zs.length:=ab
  have ajh:(zs.set j {y with P:=Z,ps:=y.ps.filter fun q=> !eJ need q.1})[j]?=some {y with P:=Z,ps:=y.ps.filter fun q=> !eJ need q.1} :=by rw[fL,bM rfl,bM hjr]
  have k4:=k3.grow g3.ok g4 (nB (d lW oW)) (nB (d lN oN)) (nB (d lb Q));have Y4:=T4.w.at ajh;refine cu.call (V:=ahP gu (fun x=>eW aI need x.1) y.L y.ls h4) (aj (Ic (E:=gu) (p:=fun x=>eW aI need x.1) (y:=.func (.func 75) #[] #[.pointer (some ⟨W,0,none⟩),.pointer (some ⟨N,0,none⟩)]) (z0:=(⟨0,0,(false,0),(false,0),0,[]⟩,cK)) rfl ah4 ah6 g4.ok Y4.L (by simpa [YB.g] using Iy.ll) (fun x hx h1 g=>adM (x:=ax4 x) g.ok (k4.grow g4.ok g (nL (d lW oW)) (nL (d lN oN)) (nL (d lb Q))) hw (Iy.xd x.1 (EX hx)) (Iy.q x.1 (EX hx))))) ?_;rintro _ h5⟨g5,L',rfl,ant,hL'⟩;have nbL:∀c,bt y.L.v c->eR B≠some c:=fun c hc e=>by have:=T.w.tf none (some (j,.L)) c e (by rw[cz D];exact dq hc);cases this
  have A5:=A4.go g4.ok g5 nbL;obtain⟨b5,cs5,o5,s5,abC,aiq,_,aoe,_,aoH⟩:=A5.el ajh;rw[fp] at abC;cases abC;have TV:=g5.get g4.ok (g4.get g3.ok BH nBF) (nL (d lF oF));have aoP:sF<=h3.clock+1:=by have:=J.clock;have:=g3.clock;omega
  have wa:=aoe 1 1 ag;simp at wa;simp[TV,aoP,bk,aiq,wa,xy,wj];have gw2:ay (· =bB) h5 (put h5 bB (j*6+1) cs5 [.slice L'.a L'.l L'.c] o5):=aY g5.ok aiq;have A6:=aoH {y with P:=Z,ps:=y.ps.filter (fun q=> !eJ need q.1),L:=L',ls:=y.ls.filter fun x=> !eW aI need x.1} 1 [L'.v] ae rfl (put h5 bB (j*6+1) cs5 [.slice L'.a L'.l L'.c] o5) ⟨_,aP _ _ _ _ _ _⟩;have T6:=T4.atA (fun x=> !eW aI need x.1) hn ajh ((g5.cY (fun c _ h=>.inl (dq h))).trans (gw2.cY fun c _ h=>.inr (by rw[h];exact PK))) A6 (hL'.go g5.ok gw2 fun c hc e=>nbL c (by
   have e:eR y.L=some c:=by rw[<-e];unfold eR;rw[ant]
   rcases Y.L.2 with⟨ha,_⟩|⟨b,o,s,cj,ha,_⟩;simp[eR,ha] at e;rw[cy ha] at e;cases e;exact eY ha) (by rw[hc];exact PK)) ant
  rw[xF] at T6;refine⟨ys.length-(j+1),ab,j+1,_,rfl,bk,au q2,au q3,au q4,au q5,by simp[ED,fp,Cz,pA],au Hd,ae,T6,au pA,fun i a c h1 w=>?_⟩;rw[fL] at w;by_cases e:j=i;subst e;rw[bM rfl,bM hjr] at w;cases w;rw[u9] at h1;cases h1;exact⟨fun _=>by simp only[YB.g,oy];rw[<-Ao _ _ (fun q:GP×SV=>eJ need q.1) (fun _=>rfl),<-Ao _ _ (fun q:GI×SV=>eW aI need q.1) (fun _=>rfl)];rfl,fun h=>ab⟩;rw[bU e] at w;obtain⟨a1,a2⟩:=H i a c h1 w;exact⟨fun h=>a1 ab,fun h=>a2 ab⟩
 .have:j=ys.length:=ab
  subst this;simp[Hd,xy];refine C _ _ zs (au q3) (au q4) T (Cy fun i=>?_);rw[js,js,js];rcases Gf i ys.length with hi|hi;obtain⟨y,D⟩:=aV ys i hi;obtain⟨z,hz⟩:=aV zs i (by rw[pA];exact hi);rw[D,hz];simp only[Cx];rw[(H i y z D hz).1 hi];rw[wY hi,wY (by rw[pA];exact hi)];rfl
section
variable{aI:Int}{need:List Bool}{bs:List GB}{aB:Nat}
def eG(aI:Int)(need:List Bool)(bs:List GB):List GB:=bs.map (oy aI need)
def O7(b:Int):aX (eG aI need bs) b=aX bs b:=mT (by simp[eG]) (fun i x d h1 c=>by unfold eG at c;rw[js,h1] at c;cases c;rfl) b
def EB.FD(E:EB bs):EB (eG aI need bs):=by
 have m:(eG aI need bs).length=bs.length:=by simp[eG]
 have j:∀b∈eG aI need bs,∃x∈bs,b=oy aI need x:=fun b c=>by obtain⟨x,d,rfl⟩:=jo.1 c;exact⟨x,d,rfl⟩
 refine⟨by rw[m];exact E.n1,by rw[m];exact E.n50,fun b c=>?_,fun b c=>?_,fun i b c p o=>?_,fun b c=>?_⟩;obtain⟨x,d,rfl⟩:=j b c;exact E.kind x d;obtain⟨x,d,rfl⟩:=j b c;rw[m];exact E.to x d
 .rw[O7];unfold eG at c;rw[js] at c;cases d:bs[i]? with
  |none=>rw[d] at c;cases c
  |some x=>
   rw[d] at c;cases c;exact E.rows i x d p (Ai.1 o).1
 obtain⟨x,d,rfl⟩:=j b c;exact Nat.lt_of_le_of_lt (EW _ _) (E.pl x d)
def kV.FD(R:kV aB bs):kV aB (eG aI need bs):=by
 have m:∀b∈eG aI need bs,∃x∈bs,b=oy aI need x:=fun b c=>by obtain⟨x,d,rfl⟩:=jo.1 c;exact⟨x,d,rfl⟩
 refine⟨fun b c=>?_,fun b c=>?_,fun b c=>?_,fun b c x d=>?_⟩<;>obtain⟨y,j,rfl⟩:=m b c;obtain⟨h1,q,s⟩:=jA.1 (R.r y j);exact jA.2 ⟨fun p o=>h1 p (Ai.1 o).1,fun x d=>q x (Ai.1 d).1,s⟩;exact sx (EW _ _) (R.p y j);exact sx (EW _ _) (R.l y j);exact R.a y j x (Ai.1 d).1
end
def VH(aI:Int)(p aB:Nat)(bs:List GB)(c:Nat×List GB):Prop:=∃need,tD aI bs aB need/\PE p (eG aI need bs) c
def NQ{h:az}(J:cr h)(hw:0<=aI/\aI<1000000000){name:ByteArray}{p n0 aB:Nat}(uU:n0<=h.aw)(W:FZ h n0 B ys)(xi:wI B ys)(E:EB (ys.map YB.g))(R:kV aB (ys.map YB.g))(Lb:∀b∈ys.map YB.g,b.list.length<=1000)(T:vg aB (ys.map YB.g))(I:∀b∈ys.map YB.g,FN aI aB b)(nd:((ys.map YB.g).flatMap qF).Nodup)(hp:p<=aB)(DR:aB<1000000):bc FF 33 [.int .i64 aI,.agg ⟨aC name p aB B⟩] h (fun v h'=>∃j,VH aI p aB (ys.map YB.g) j/\vU name p n0 B ys j h v h'):=by
 have dT:=W.A.len;have hl:ys.length<50:=aj E.n50
 have s:∀c,h.aw<=c->¬cx B ys c:=fun c hc h1=>av (W.mo J h1)
 refine bc.of PT ?_;unfold FR;have n1:¬h.aw=h.aw+1:=ab
 have n2:¬h.aw=h.aw+1+1:=ab
 have n3:¬h.aw+1=h.aw:=ab
 simp[aC,n1,n2,n3];refine bm.cut (fun h1=>ay aZ h h1/\(dg h1 h.aw [.int .i64 aI])/\(dg h1 (h.aw+1) (aC name p aB B))/\(dg h1 (h.aw+1+1) [.string ⟨⟨[]⟩⟩,.int .i64 0,.int .i64 0,.slice none 0 0])) ?_ ?_;exact⟨(((ay.refl J).new _ _).new _ _).new _ _,⟨0,by simp[n1,n2]⟩,⟨0,by simp[aC,n3]⟩,⟨0,ae⟩⟩;rintro h1⟨w,⟨sW,hW1⟩,⟨sF,yD⟩,⟨sR,Bg⟩⟩;refine bm.call (V:=VL aI (ys.map YB.g) aB h1) (by simpa [aC] using Ou w.ok (p:=p) hw (name:=name) (W.ck J w).view T DR) ?_;rintro _ O⟨m,d,rfl,hdn,need,⟨sd,Gk⟩,KT,mk⟩;have jC:=w.trans m;have hW2:=m.get w.ok hW1;have jz:=m.get w.ok yD;have w_:=m.get w.ok Bg;have lR:=w.ok.wf _ _ Bg;have l2:=m.aw;have ld:=m.ok.wf _ _ Gk;have nF2:¬h.aw+1=O.aw:=ab
 have N9:=jz;simp[aC] at N9;simp[N9,nF2];refine aO.cut (fun Y=>ay aZ O Y/\dg Y O.aw [.slice (some ⟨d,0,none⟩) aB aB]) ?_ ?_;exact⟨(ay.refl m.ok).var _ _,O.clock,by simp[bg]⟩;rintro Y⟨o,sN,hN3⟩;have ef:=jC.trans o;have O3:=W.ck J ef;have hW3:=o.get m.ok hW2;have uT:=o.get m.ok jz;have Ew:=o.get m.ok w_;have Pp:=o.get m.ok Gk;have l3:=o.aw;have k3:BU Y h.aw O.aw d aB aI need:=⟨⟨sW,hW3⟩,⟨sN,hN3⟩,⟨sd,Pp⟩,KT⟩;refine Ll o.ok (R:=h.aw+1+1) ab O3 hw ab (fun y hy=>I _ (EX hy)) k3 (s _ ab) (s _ ab) (s _ ab) (s _ ab) (F:=h.aw+1) uT ae ae ae ae ae (au dT) ae ?_;intro e4 h4 D q3 q4 q M4;have N:=((cM.refl W J).ck ef).trans q;have BH:=q.g.get o.ok uT (s _ ab);have KP:=q.g.get o.ok Ew (s _ ab);have XP:=BH;simp[aC] at XP;simp[q3,XP];have l4:=q.g.aw;have E4:EB (D.map YB.g):=by rw[M4];exact E.FD
 have R4:kV aB (D.map YB.g):=by rw[M4];exact R.FD
 have L4:∀b∈D.map YB.g,b.list.length<=1000:=by rw[M4];intro b hb;obtain⟨x,hx,rfl⟩:=jo.1 hb;exact sx (EW _ _) (Lb x hx)
 refine bm.call (V:=fun v h'=>∃j,PE p (D.map YB.g) j/\vU name p n0 B D j h4 v h') (by simpa [aC] using Vt q.g.ok (name:=name) (p:=p) ab q.w (N.x xi) E4 R4 L4 hp DR) ?_;rintro _ h5⟨j,TR,Q,y5,rfl,Z,M5⟩;have T05:=N.trans Z;have oR:¬cx B D (h.aw+1+1):=fun e=>(q.s _ e).elim (s _ ab) ab;have oR5:¬cx Q y5 (h.aw+1+1):=fun e=>(Z.s _ e).elim oR ab;have Ak:=Z.g.get q.g.ok KP oR;simp[aC,q4,Ak];have gw:=(ay.refl Z.g.ok).put (S:=(· =h.aw+1+1)) (off:=0) (vs:=[Value.string name,Value.int .i64 p,Value.int .i64 j.1,Value.slice Q.a Q.l Q.c]) ⟨_,Ak⟩ (.inr rfl);generalize put h5 _ _ _ _ _=h6 at gw⊢;rw[M4] at TR;exact⟨j.1,j.2,⟨need,acG T nd KT mk,TR⟩,Q,y5,by simp[aC],T05.go gw (fun c e=>⟨ab,fun h=>by rw[e] at h;exact oR5 h⟩),M5⟩
section
variable{f:GF}
def eH.eb(F:eH f):EB f.blocks:=by
 have h1:=F.head.blocks;have V:=F.head.many;have key:∀bs:List GB,bs.map (·.to)=f.blocks.map (·.to)->bs.length=f.blocks.length->(∀(i:Nat)(b:GB),bs[i]?=some b->∃x,f.blocks[i]?=some x/\b.kind=x.kind/\b.to=x.to)->(∀(i:Nat)(b:GB),bs[i]?=some b->∀p∈b.bD,p.row.length=(aX bs i).length)->(∀b∈bs,b.bD.length<100000)->EB bs:=fun bs _ I D w O=>by
  have mem:∀b∈bs,∃x∈f.blocks,b.kind=x.kind/\b.to=x.to:=fun b c=>by obtain⟨i,Q⟩:=iI c;obtain⟨x,d,e⟩:=D i b Q;exact⟨x,cN d,e⟩
  refine⟨ab,ab,fun b c=>?_,fun b c t J=>?_,w,O⟩;obtain⟨x,d,q,m⟩:=mem b c;rw[q,m];exact(F.body.ends x d).kind;obtain⟨x,d,q,m⟩:=mem b c;rw[m] at J;have:=(F.body.ends x d).to t J;unfold agn at this;omega
 have o:EB (f.blocks.map fun b=> {b with bD:=[]}):=key _ (by simp[List.map_map,Function.comp_def]) ae (fun i b c=>by
  rw[js] at c;cases d:f.blocks[i]? with
  |none=>rw[d] at c;cases c
  |some x=>rw[d] at c;cases c;exact⟨x,rfl,rfl,rfl⟩) (fun i b c p s=>by
  obtain⟨x,_,rfl⟩:=jo.1 (cN c);cases s) (fun b c=>by
  obtain⟨x,_,rfl⟩:=jo.1 c;exact Nat.zero_lt_succ _)
 refine key f.blocks rfl rfl (fun i b c=>⟨b,c,rfl,rfl⟩) (fun i b c p s=>?_) fun b c=>av (gM c)
 obtain⟨_,l,I,N⟩:=(F.body.AF i b c).bD p s;have j:=o.ahead (k:=i) (by rw[KM];exact(di.mp c).1);have q:cw (f.blocks.map fun b=> {b with bD:=[]})=cw f.blocks:=by simp[cw,List.map_map,Function.comp_def]
 have m:aX (f.blocks.map fun b=> {b with bD:=[]}) (i:Int)=aX f.blocks i:=mT ae (fun i x W h1 j=>by rw[js,h1] at j;cases j;rfl) _;rw[q,m,I] at j;cases j;exact N.len
def NT(h:Dc n v):tC n (oz v):=fun r c=>by unfold oz at c;split at c;rename_i e;cases List.mem_singleton.1 c;exact h e;cases c
def abj{l:List (Bool×Int)}(h:∀v∈l,Dc n v):tC n (u0 l):=fun r c=>by obtain⟨v,d,c⟩:=List.mem_flatMap.1 c;exact NT (h v d) r c
def eH.adn(F:eH f):kV f.aB.toNat f.blocks:=by have D:=F.head.many;refine⟨fun b c=>?_,fun b c=>av (gM c),fun b c=>av (gM c),fun b c x m=>?_⟩;have I:=ug F b c;refine jA.2 ⟨fun p o r d=>?_,fun x m r d=>?_,NT I.on⟩;obtain⟨h1,_,j⟩:=I.ph p o;rcases jS.1 d with h|h;cases List.mem_singleton.1 h;exact h1;exact abj j r h;obtain⟨h1,j,s,_,q⟩:=I.li x m;unfold DH at d;rcases jS.1 d with h|h;exact NT j r h;rcases jS.1 h with h|h;exact NT s r h;rcases jS.1 h with h|h;exact abj q r h;split at h;cases List.mem_singleton.1 h;exact⟨by assumption,h1⟩;cases h;obtain⟨i,w⟩:=iI c;have:=(nj ((F.body.AF i b w).list x m)).2;omega
def eH.inZ(F:eH f):∀b∈f.blocks,GQ b:=fun b c=>by
 have s:=F.head.many;have:=gM c;obtain⟨i,d⟩:=iI c;refine⟨ab,ab,fun p j=>?_,fun x q=>?_,?_⟩
 obtain⟨_,l,m,o⟩:=(F.body.AF i b d).bD p j;have:=o.len;have:=ahA F m;omega
 have:=(nj ((F.body.AF i b d).list x q)).2;omega;have:=F.eb.two c;omega
def eH.O8(F:eH f):vg f.aB.toNat f.blocks:=by have j:=F.head.blocks;refine⟨ab,fun b c=>?_,fun b c=>?_,fun b c=>(ug F b c).on⟩;exact⟨(ug F b c).lp,(ug F b c).ph⟩;refine⟨(ug F b c).ll,fun x d=>?_⟩;obtain⟨i,m⟩:=iI c;have:=(nj ((F.body.AF i b m).list x d)).2;exact⟨((ug F b c).li x d).1,ab,fun v o=>BV (QV ((F.body.AF i b m).list x d) v o)⟩
def eH.ahE(F:eH f)(aI:Int):∀b∈f.blocks,FN aI f.aB.toNat b:=fun b d=>by obtain⟨i,j⟩:=iI d;have I:=ug F b d;exact⟨I.lp,I.ll,fun q m=>(I.ph q m).1,fun x c=>(I.li x c).1,fun x c=>Zi ((F.body.AF i b j).list x c)⟩
def eH.Ww(F:eH f):∀b∈f.blocks,b.list.length<=1000:=fun b c=>by have d:=F.head.many;have:=gM c;omega
end
def LgZ(h:az)(B:SV)(bs:List GB)(F:Nat)(d:List Value)(m:Nat)(e:Env)(c:az):Prop:=
 ∃j:Nat,m=bs.length-j/\j<=bs.length/\cm e 1 F/\bJ e 3 (dp (bs.take j):Nat)/\dp (bs.take j)<=j*2000000/\bH e 7=B.v/\bJ e 8 bs.length/\bJ e 9 j/\ay aZ h c
def Q5{h:az}(ok:cr h){name:ByteArray}{p r:Int}(hB:qg h B bs)(C:aeC bs):bc FF 70 [.agg ⟨aC name p r B⟩] h (fun v h'=>ay aZ h h'/\v=.bool (iJ r bs)):=by
 have c:=aD.len hB;have hl:=C.1;refine bc.of KB ?_;unfold BB;simp[aC,c];refine aO.cut (fun h1=>ay aZ h h1/\dg h1 h.aw (aC name p r B)) ?_ ?_
 exact⟨(ay.refl ok).new _ _,0,by simp[aC,c]⟩;rintro h1⟨o,sF,yD⟩;refine aO.loop (LgZ h1 B bs h.aw (aC name p r B)) ?_ (n:=bs.length) ⟨0,rfl,ab,ae,by simp[dp],by simp[dp],au c,ae,ae,.refl o.ok⟩;rintro m e N⟨j,rfl,hj,s,w,hk,O,D,J,d⟩;obtain⟨k,q⟩:∃k,k=dp (bs.take j):=⟨_,rfl⟩;rw[<-q] at w hk;have jz:=d.get o.ok yD;unfold yH;by_cases V:j<bs.length
 have Q:bs[j]?=some bs[j]:=g_ V;have hm:=Be V;generalize bs[j]=b at Q hm;obtain⟨c1,c2⟩:=C.2 b hm;obtain⟨bB,off,cells,fp,_,_,⟨P,L,T,rfl,sP,sL,sT⟩,oB,cZ⟩:=aD.later ok hB Q;have rd:=cZ N (o.trans d) 0 6 ag;simp[-ax] at rd;have gY:=aD.len sP;have jt:=aD.len sL;simp at O;rw[fp,c] at O;have wj:=cg ((j:Int)+1) ab ab;have w1:=cg ((b.bD.length:Int)+b.list.length) ab ab;have w2:=cg ((k:Int)+((b.bD.length:Int)+b.list.length)) ab ab;have Y:ay aZ N (put (aK N [.slice none 0 0,.slice none 0 0,.int .i64 0,.bool false,.int .i64 0,.slice none 0 0] 0) N.aw 0 [.slice none 0 0,.slice none 0 0,.int .i64 0,.bool false,.int .i64 0,.slice none 0 0] [P.v,L.v,.int .i64 b.kind,.bool b.on.1,.int .i64 b.on.2,T.v] 0):=(ay.refl d.ok).var _ _;simp at Y;simp[s,w,O,D,J,V,rd,gY,jt,wj,w1,w2,-ax,aH];rw[gY,jt] at Y;refine⟨bs.length-(j+1),ab,j+1,rfl,V,au s,by simp[ui Q,q],by rw[ui Q,<-q];omega,by simp[O,fp,c],au D,ae,d.trans Y⟩
 .have:j=bs.length:=ab
  subst this;rw[jT] at q;subst q;have I:=jz;simp[aC] at I;by_cases Z:(40:Int)<(bs.length:Int)
  .have W:40<bs.length:=ab
   simp[s,w,D,J,I,c,Z,iJ,W];exact o.trans d
  .by_cases a2:(300:Int)<(dp bs:Int)
   .have b2:300<dp bs:=ab
    simp[s,w,D,J,I,c,Z,a2,iJ,b2];exact o.trans d
   .have W:¬40<bs.length:=ab
    have b2:¬300<dp bs:=ab
    simp[s,w,D,J,I,c,Z,a2,iJ,W,b2];exact o.trans d
def VI(M:Nat)(h:az)(y:XG)(g:GG):Prop:=eo encI h y.I g.init/\∀c,eR y.I=some c->M<=c
def ar4(h0 h:az)(G F f:SV)(U R1 R2:Nat)(fv:Value)(gs:List GG)(m:Nat)(e:Env)(h':az):Prop:=
 ∃(j:Nat) (ys:List XG),m=gs.length-j/\j<=gs.length/\bH e 1=fv/\cm e 2 U/\cm e 4 R1/\cm e 5 R2/\bH e 15=G.v/\bJ e 16 gs.length/\bJ e 17 j/\ay (bt G.v) h h'/\eo Cu h' G ys/\PD ys gs/\(∀(i:Nat)(y:XG)(g:GG),i<j->ys[i]?=some y->gs[i]?=some g->VI h.aw h' y g)/\∀(i:Nat)(y:XG)(g:GG),j<=i->ys[i]?=some y->gs[i]?=some g->aD nR 1 h0 y.I.v g.init
def KJ{h0 h:az}(dt:cr h0)(g0:ay aZ h0 h){G F f:SV}{ys:List XG}(hU:fC h U [G.v,F.v] sU)(nU:¬bt G.v U)(hG:eo Cu h G ys)(hGn:∀b,bt G.v b->h0.aw<=b)(hys:PD ys gs)(hI:∀(i:Nat)(y:XG)(g:GG),ys[i]?=some y->gs[i]?=some g->aD nR 1 h0 y.I.v g.init)(hgl:gs.length<=10)(E6:∀g∈gs,g.init.length<=1048576)(f1:bH e 1=fv)(f2:cm e 2 U)(f4:cm e 4 R1)(f5:cm e 5 R2)(f15:bH e 15=G.v)(f16:bJ e 16 gs.length)(f17:bJ e 17 0)(C:∀e' h' Kd,bH e' 1=fv->cm e' 2 U->cm e' 4 R1->cm e' 5 R2->ay (bt G.v) h h'->eo Cu h' G Kd->PD Kd gs->(∀(i:Nat)(y:XG)(g:GG),Kd[i]?=some y->gs[i]?=some g->VI h.aw h' y g)->QQ (.exit 0) e' h'):aO FF (.loop uM) e h QQ:=by
 have Wj:=hG.len;refine aO.loop (ar4 h0 h G F f U R1 R2 fv gs) ?_ (n:=gs.length) ⟨0,ys,rfl,ab,f1,f2,f4,f5,f15,f16,f17,.refl g0.ok,hG,hys,fun i y g h=>ab,fun i y g _ a b=>hI i y g a b⟩;rintro m e' h'⟨j,zs,rfl,hj,q1,q2,q4,q5,yV,Fv,O,g,SL,w,hD',hI'⟩;have Z:=g.ok;have gg:ay aZ h0 h':=g0.trans' g ai (fun x hx e=>av (hGn x e));have vx:=g.get g0.ok hU nU;have EZ:=vx;simp at EZ;have Ho:=Z.st _ _ _ _ _ vx;have oU:=Z.cn vx;unfold uM;by_cases Q:j<gs.length
 .have wj:=cg ((j:Int)+1) ab ab;obtain⟨y,hy⟩:=aV zs j (by rw[w.1];exact Q);obtain⟨gj,J⟩:=aV gs j Q;have sI:=hI' j y gj (fh _) hy J;obtain⟨b,cs,o,s,ha,hb,hjA,dQ,cZ,fu⟩:=SL.el hy;have W:=SL.len;have rd:=cZ 0 3 ag;simp[-ax] at rd;rw[ha,W,w.1] at EZ;simp at yV;rw[ha,W,w.1] at yV;have nUb:¬U=b:=fun e=>nU (e▸eY ha);simp[q2,yV,Fv,O,Q,rd,-ax,aH,cH,bw,aF EZ,oU,aQ];refine cu.cut (fun d=>ay aZ h' d) (((ay.refl Z).var _ _).tick) ?_;intro d D;have Hm:=D.get Z EZ;have Pl:=D.get Z hb;refine cu.call (V:=jV encI d gj.init) (aj (kC encI (bytes:=8) nW rfl ag D.ok ((Rh sI).ck dt (gg.trans D)) (av (E6 gj (cN J))))) ?_;rintro _ h3⟨Y,q,rfl,N,hIn,hIb⟩;have XU:=Y.get D.ok Hm;have hb4:=Y.get D.ok Pl;have IK:sU<=h'.clock+1:=ab
  have hf:=dQ 2 1 ag;simp at hf;simp[q2,XU,IK,Q,hb4,hf,O,wj];have g4:=aY (off:=j*3+2) (vs:=[Value.slice q.a q.l q.c]) Y.ok hb4;have A4:=fu {y with I:=q} 2 [Value.slice q.a q.l q.c] ae rfl (put h3 b (j*3+2) cs [Value.slice q.a q.l q.c] o) ⟨h3.clock,ae⟩;refine⟨gs.length-(j+1),ab,j+1,zs.set j {y with I:=q},rfl,Q,au q1,au q2,au q4,au q5,by simp[yV,ha,W,w.1],au Fv,ae,((g.trans D.ck).trans Y.ck).trans (g4.cY (fun x _ e=>e▸eY ha)),A4,⟨by simp[w.1],fun i a c h1 d=>?_⟩,fun i a c hi h1 d=>?_,fun i a c hi h1 d=>?_⟩
  rw[fL] at h1;by_cases e1:j=i;subst e1;rw[bM rfl,bM (by rw[w.1];exact Q)] at h1;cases h1;exact w.2 j y c hy d;rw[bU e1] at h1;exact w.2 i a c h1 d
  .have lb:b<h.aw:=av (hG.cn g0.ok (eY ha))
   have ln:=g.aw;have l2:=D.aw;rw[fL] at h1;by_cases e1:j=i
   subst e1;rw[bM rfl,bM (by rw[w.1];exact Q)] at h1;cases h1;rw[J] at d;cases d;exact⟨N.go Y.ok g4 fun c hc e=>av (jV.eR N hIn c e),fun c e=>av (jV.eR N hIn c e)⟩;rw[bU e1] at h1;obtain⟨k1,k2⟩:=hD' i a c ab h1 d;exact⟨((k1.ck Z D).ck D.ok Y).go Y.ok g4 fun c hc e=>av (k2 c e),k2⟩
  rw[fL,bU ab] at h1;exact hI' i a c ab h1 d
 .have:j=gs.length:=ab
  subst this;simp[Fv,O];exact C _ _ zs (au q1) (au q2) (au q4) (au q5) g SL w fun i y g a b=>hD' i y g (av ((di.mp b).1)) a b
abbrev kM:Type:=GF->Nat×List GB->Prop
def Br(M:Nat)(P:kM)(h:az)(z:XF)(f:GF):Prop:=
 ∃(n0:Nat) (ys:List YB) (c:Nat),M<=n0/\FZ h n0 z.B ys/\(z.name=f.name/\z.params=f.params/\z.aB=c)/\P f (c,ys.map YB.g)
def PL(P:kM):kM:=fun f c=>P f c/\iJ c.1 c.2=false
def Br.grow{P:kM}{h h':az}{z:XF}{f:GF}(d:Br M P h z f)(m:cr h)(g:ay S h h')(o:∀b,S b->b<M\/h.aw<=b):Br M P h' z f:=by obtain⟨n0,ys,j,q,O,a,b⟩:=d;exact⟨n0,ys,j,q,O.low m g fun c s=>(o c s).imp (fun e=>ab) id,a,b⟩
def ar5(h0 c:az)(P:kM)(F:SV)(U R1 R2:Nat)(fv:Value)(fs:List GF)(m:Nat)(e:Env)(h':az):Prop:=
 ∃(k:Nat) (zs:List XF),m=fs.length-k/\k<=fs.length/\bH e 1=fv/\cm e 2 U/\cm e 4 R1/\cm e 5 R2/\bH e 36=F.v/\bJ e 37 fs.length/\bJ e 38 k/\ay (bt F.v) c h'/\eo uZ h' F zs/\zs.length=fs.length/\(∀(i:Nat)(z:XF)(f:GF),i<k->zs[i]?=some z->fs[i]?=some f->Br c.aw (PL P) h' z f)/\∀(i:Nat)(z:XF)(f:GF),k<=i->zs[i]?=some z->fs[i]?=some f->VQ h0 z f
def Qm{h0 w:az}(dt:cr h0)(g0:ay aZ h0 w){P:kM}{G F:SV}{U R1 R2 sU s1 s2:Nat}{zs0:List XF}(hU:fC w U [G.v,F.v] sU)(Bg:fC w R1 [.slice none 0 0,.slice none 0 0] s1)(w_:fC w R2 [.int .i64 0,.int .i64 0] s2)(n12:¬R1=R2)(nU:¬bt F.v U)(nR1:¬bt F.v R1)(nR2:¬bt F.v R2)(hF:eo uZ w F zs0)(DM:∀b,bt F.v b->h0.aw<=b)(wK:zs0.length=fs.length)(hz:∀(i:Nat)(z:XF)(f:GF),zs0[i]?=some z->fs[i]?=some f->VQ h0 z f)(lZ:fs.length<=10)(fO:∀f∈fs,eH f)(hP:∀f∈fs,∀d,P f d->aeC d.2)(H:∀f∈fs,∀(h:az)(j n0 aB:Nat)(B:SV)(ys:List YB),cr h->ay (bt F.v) w h->n0<=h.aw->w.aw<=n0->f.params=j->f.aB=aB->j<=aB->aB<1000000->FZ h n0 B ys->wI B ys->ys.map YB.g=f.blocks->dU FF fv [.agg ⟨aC f.name j aB B⟩] h (fun v h'=>∃d,P f d/\vU f.name j n0 B ys d h v h'))(f1:bH e 1=fv)(Y:cm e 2 U)(f4:cm e 4 R1)(f5:cm e 5 R2)(f36:bH e 36=F.v)(f37:bJ e 37 fs.length)(f38:bJ e 38 0)(bad:∀(e':Env)(h':az)(a:Nat)(f:GF)(d:Nat×List GB),fs[a]?=some f->P f d->iJ d.1 d.2=true->(∀(i:Nat)(f:GF),i<a->fs[i]?=some f->∃d,P f d/\iJ d.1 d.2=false)->cm e' 4 R1->cm e' 5 R2->ay (fun b=>bt F.v b\/b=R1\/b=R2) w h'->(dg h' R1 [.slice none 0 0,.slice none 0 0])->(dg h' R2 [.int .i64 10,.int .i64 a])->QQ .ret e' h')(u4:∀e' h' zs,cm e' 2 U->cm e' 4 R1->cm e' 5 R2->ay (bt F.v) w h'->eo uZ h' F zs->zs.length=fs.length->(∀(i:Nat)(z:XF)(f:GF),zs[i]?=some z->fs[i]?=some f->Br w.aw (PL P) h' z f)->QQ (.exit 2) e' h'):aO FF (.loop uL) e w QQ:=by
 have Q:=g0.ok;refine aO.loop (ar5 h0 w P F U R1 R2 fv fs) ?_ (n:=fs.length) ⟨0,zs0,rfl,ab,f1,Y,f4,f5,f36,f37,f38,.refl Q,hF,wK,fun i z f h=>ab,fun i z f _ a b=>hz i z f a b⟩;rintro m e' h'⟨k,zs,rfl,hk,q1,q2,q4,q5,O,q37,Zf,g,nz,QR,hD,hT⟩;have bS:=g.ok;have ln:=g.aw;have gg:ay aZ h0 h':=g0.trans' g ai (fun x hx e=>av (DM x e));have vx:=g.get Q hU nU;have hR1':=g.get Q Bg nR1;have hR2':=g.get Q w_ nR2;have wJ:=nz.len;unfold uL;by_cases oK:k<fs.length
 .have wk:=cg ((k:Int)+1) ab ab;obtain⟨z,hzk⟩:=aV zs k;obtain⟨f,I⟩:=aV fs k oK;obtain⟨e1,e2,e3,hBs⟩:=hT k z f (fh _) hzk I;have K:=fO f (cN I);have hr:=K.head.aB;have hp:=K.head.params;obtain⟨j,Ws⟩:∃n:Nat,f.params=n:=⟨f.params.toNat,ab⟩;obtain⟨rn,hrn⟩:∃n:Nat,f.aB=n:=⟨f.aB.toNat,ab⟩;obtain⟨b,cs,o,s,ha,hb,hjA,dQ,cZ,fu⟩:=nz.el hzk;have rd:=cZ 0 4 ag;simp[-ax] at rd;rw[e1,e2,e3,Ws,hrn] at rd;simp at O;rw[ha,wJ,QR] at O;simp[O,q37,Zf,q1,oK,rd,-ax,aH];refine bm.cut (fun q=>ay aZ h' q/\dg q h'.aw (aC f.name j rn z.B)) ?_ ?_
  exact⟨(ay.refl bS).var _ _,h'.clock,by simp[bg,aC]⟩;rintro q⟨g2,sX,eC⟩;have jC:=gg.trans g2;have Wh:qg q z.B f.blocks:=hBs.mono dt jC;have l2:=g2.aw;have lX:=g2.ok.wf _ _ eC;refine bm.call (V:=mQ f.name j rn f.blocks q) (by simpa [aC] using Tw g2.ok (name:=f.name) (p:=j) (r:=rn) Wh K.inZ (av K.head.blocks)) ?_;rintro _ h3⟨g3,B3,ys,rfl,O3,X3,M3⟩;have eD:=g3.get g2.ok eC;have apg:∀x,x<q.aw->¬cx B3 ys x:=fun x hx ⟨l,e⟩=>av (O3.new l x e)
  have l3:=g3.aw;simp[q1];refine bm.e_ (V:=fun v h'=>∃d,P f d/\vU f.name j q.aw B3 ys d h3 v h') (by simpa [q1,aC] using H f (cN I) h3 j q.aw rn B3 ys g3.ok (g.trans (g2.trans g3).ck) ab ab Ws hrn ab ab O3 X3 M3) ?_;rintro _ h4⟨d,Z,D,y4,rfl,T4,M4⟩;have g4:=T4.g;have G4:ay aZ h' h4:=(g2.trans g3).trans' g4 ai (fun x hx e=>apg x ab e);have kR:=g4.get g3.ok eD (apg _ lX);have XV:=kR;simp[aC] at XV;simp[aC,XV];refine bm.cut (fun h5=>ay (· =h'.aw) h4 h5/\dg h5 h'.aw [.string f.name,.int .i64 j,.int .i64 d.1,.slice D.a D.l D.c]) ?_ ?_
  exact⟨(ay.refl g4.ok).put ⟨_,XV⟩ (.inr rfl),h4.clock,ae⟩;rintro h5⟨g5,s5,oJ⟩;have O5:=T4.w.low g4.ok g5 (fun c e=>.inl ab);have G5:ay aZ h' h5:=G4.trans' g5 ai (fun x hx e=>ab);have V5:=O5.view;rw[M4] at V5;refine bm.call (V:=fun v h'=>ay aZ h5 h'/\v=.bool (iJ d.1 d.2)) (by simpa [aC] using Q5 g5.ok (name:=f.name) (p:=j) (r:=d.1) V5 (hP f (cN I) d Z)) ?_;rintro _ h6⟨N,rfl⟩;have G6:=G5.trans N;have J:ay (bt F.v) w h6:=g.trans G6.ck;have hU6:=J.get Q hU nU;have afn:=J.get Q Bg nR1;have afo:=J.get Q w_ nR2;have po:=N.get g5.ok oJ;cases afr:iJ d.1 d.2 with
  |true=>
   simp;refine bm.call (aj (j4 h6 N.ok 10 (k:Int))) ?_;rintro _ h7⟨rfl,W⟩;have abI:=W.get N.ok afn;have abJ:=W.get N.ok afo;have n21:¬R2=R1:=fun e=>n12 e.symm;simp[q4,q5,abI,abJ,n21];have GL7:ay (fun b=>bt F.v b\/b=R1\/b=R2) w h7:=(J.cY (fun x _ h=>.inl h)).trans W.ck;refine bad _ _ k f d I Z afr (fun i Y hi q=>by obtain⟨z2,Wv⟩:=aV zs i;obtain⟨_,y2,m2,_,_,_,p2⟩:=hD i z2 Y hi Wv q;exact⟨_,p2⟩) (au q4) (au q5) ?_ ⟨h7.clock,by simp[n12]⟩ ⟨h7.clock+1,ae⟩
   exact(GL7.put ⟨_,abI⟩ (.inr (.inr (.inl rfl)))).put ⟨s2,by simp[n21,abJ]⟩ (.inr (.inr (.inr rfl)))
  |false=>
   have A6:=nz.grow bS G6 ai;obtain⟨b6,cs6,o6,s6,ha6,Ub,hjA6,abX,aoB,ack⟩:=A6.el hzk;rw[ha] at ha6;cases ha6;have aiK:=hU6;simp at aiK;rw[ha,wJ,QR] at aiK;have hf6:=abX 0 4 ag;simp at hf6;simp[q2,aiK,po,oK,Ub,hf6,Zf,wk];have lb:b<w.aw:=hF.cn Q (eY ha);have W:=aY (off:=k*4) (vs:=[Value.string f.name,Value.int .i64 j,Value.int .i64 d.1,Value.slice D.a D.l D.c]) N.ok Ub;have A7:=ack ⟨f.name,j,d.1,D⟩ 0 [Value.string f.name,Value.int .i64 j,Value.int .i64 d.1,Value.slice D.a D.l D.c] ae rfl (put h6 b (k*4) cs6 [Value.string f.name,Value.int .i64 j,Value.int .i64 d.1,Value.slice D.a D.l D.c] o6) ⟨h6.clock,ae⟩;have GL7:=J.trans (W.cY (fun x _ e=>e▸eY ha));generalize put h6 b (k*4) cs6 _ o6=h7 at*;have hkz:k<zs.length:=ab
   refine⟨fs.length-(k+1),ab,k+1,zs.set k ⟨f.name,j,d.1,D⟩,rfl,oK,au q1,au q2,au q4,au q5,by simp[O,ha,wJ,QR],au q37,ae,GL7,A7,au QR,fun i z2 Y hi h1 q=>?_,fun i z2 Y hi h1 q=>?_⟩
   .rw[fL] at h1;by_cases e1:k=i;subst e1;rw[bM rfl,bM hkz] at h1;cases h1;rw[I] at q;cases q;have D5:Br w.aw (PL P) h5 ⟨f.name,j,d.1,D⟩ f:=⟨q.aw,y4,d.1,ab,O5,⟨rfl,Ws.symm,rfl⟩,by rw[M4];exact⟨Z,afr⟩⟩;exact(D5.grow g5.ok N (fun _ h=>h.elim)).grow N.ok W (fun x e=>.inl ab)
    rw[bU e1] at h1;exact((hD i z2 Y ab h1 q).grow bS G6 (fun _ h=>h.elim)).grow N.ok W (fun x e=>.inl ab)
   rw[fL,bU ab] at h1;exact hT i z2 Y ab h1 q
 .have:k=fs.length:=ab
  subst this;simp[q37,Zf];exact u4 _ _ zs (au q2) (au q4) (au q5) g nz QR (fun i z f a b=>hD i z f (av ((di.mp b).1)) a b)
def FM(P:kM)(fs j:List GF):Prop:=j.length=fs.length/\∀(i:Nat)(f d:GF),fs[i]?=some f->j[i]?=some d->∃c,P f c/\d=⟨f.name,f.params,c.1,c.2⟩
def ahM(P:kM)(fs:List GF)(k:Nat):Prop:=∃(f:GF) (c:Nat×List GB),fs[k]?=some f/\P f c/\iJ c.1 c.2=true/\∀(i:Nat)(f:GF),i<k->fs[i]?=some f->∃c,P f c/\iJ c.1 c.2=false
def uS(M:Nat)(h:az)(G F:SV)(u:GU):Prop:=∀(S:Nat->Prop)(h':az),ay S h h'->(∀c,S c->c<M\/h.aw<=c)->uR h' G F u
def uS.go{h h':az}{G F:SV}(w:uS M h G F u)(g:ay S h h')(o:∀c,S c->c<M\/h.aw<=c):uS M h' G F u:=fun d m j q=>w (fun c=>S c\/d c) m ((g.cY fun _ _ h=>.inl h).trans (j.cY fun _ _ h=>.inr h)) fun c s=>s.elim (o c) fun h=>(q c h).imp id fun e=>sx g.aw e
def FK(P:kM)(gs:List GG)(fs:List GF)(M:Nat)(h':az)(d j:SV)(c a:Int):Prop:=
 (∃k:Nat,c=10/\a=k/\d=cK/\j=cK/\ahM P fs k)\/(c=0/\a=0/\∃m,uS M h' d j ⟨gs,m⟩/\FM (PL P) fs m)
def agw(P:kM)(gs:List GG)(fs:List GF)(h:az)(v:Value)(h':az):Prop:=
 ay aZ h h'/\∃(d j:SV) (c a:Int),v=.tuple #[.agg ⟨[d.v,j.v]⟩,.agg ⟨[.int .i64 c,.int .i64 a]⟩]/\FK P gs fs h.aw h' d j c a
def Mr{P:kM}{h:az}(W:cr h){F:SV}{zs:List XF}(hF:eo uZ h F zs)(DM:∀b,bt F.v b->M<=b)(hl:zs.length=fs.length)(D:∀(i:Nat)(z:XF)(f:GF),zs[i]?=some z->fs[i]?=some f->Br M P h z f):∃I,(∀(S:Nat->Prop)(h':az),ay S h h'->(∀c,S c->c<M\/h.aw<=c)->aD (fR h') 4 h' F.v I)/\FM P fs I:=by
 obtain⟨I,V,H⟩:=IZ (Q:=fun(i:Nat) (g:GF)=>∀z f,zs[i]?=some z->fs[i]?=some f->(∀(S:Nat->Prop)(h':az),ay S h h'->(∀c,S c->c<M\/h.aw<=c)->fR h' (uZ.enc z) g)/\∃j,P f j/\g=⟨f.name,f.params,j.1,j.2⟩) (List.range fs.length) (fun i hi=>by have N:i<fs.length:=N4.1 hi;obtain⟨z,s⟩:=aV zs i;obtain⟨f,w⟩:=aV fs i N;obtain⟨n0,ys,m,hM,O,⟨e1,e2,e3⟩,p⟩:=D i z f s w;refine⟨⟨f.name,f.params,m,ys.map YB.g⟩,fun z2 f2 h1 o=>?_⟩;rw[s] at h1;cases h1;rw[w] at o;cases o;exact⟨fun S h' g J=>⟨z.B,by simp[e1,e2,e3,aC],(O.low W g fun c hc=>(J c hc).imp (fun e=>ab) id).view⟩,(m,ys.map YB.g),p,rfl⟩);rw[List.length_range] at V;have q:∀(i:Nat)(g:GF),I[i]?=some g->∃z f,zs[i]?=some z/\fs[i]?=some f/\(∀(S:Nat->Prop)(h':az),ay S h h'->(∀c,S c->c<M\/h.aw<=c)->fR h' (uZ.enc z) g)/\∃j,P f j/\g=⟨f.name,f.params,j.1,j.2⟩:=by
  intro i g Z;have N:i<fs.length:=by rw[<-V];exact(di.mp Z).1
  obtain⟨z,s⟩:=aV zs i;obtain⟨f,w⟩:=aV fs i N;exact⟨z,f,s,w,H i i g (List.getElem?_range N) Z z f s w⟩
 refine⟨I,fun S h' gr J=>(hF.grow W gr (fun b Y e=>by have:=DM b Y;have:=J b e;have:=hF.cn W Y;omega)).view ab (fun i z g h1 o=>?_),V,fun i f f' h1 o=>?_⟩;obtain⟨z2,f,a,b,c,_⟩:=q i g o;rw[h1] at a;cases a;exact c S h' gr J;obtain⟨z2,f2,a,b,_,d⟩:=q i f' o;rw[h1] at b;cases b;exact d
def TF{h:az}(ok:cr h){P:kM}{G F:SV}(hu:uR h G F u)(hgl:u.globals.length<=10)(E6:∀g∈u.globals,g.init.length<=1048576)(lZ:u.funcs.length<=10)(fO:∀f∈u.funcs,eH f)(hP:∀f∈u.funcs,∀m,P f m->aeC m.2)(H:∀f∈u.funcs,∀(h1:az)(pn n0 aB:Nat)(B:SV)(ys:List YB),cr h1->ay aZ h h1->n0<=h1.aw->h.aw<=n0->f.params=pn->f.aB=aB->pn<=aB->aB<1000000->FZ h1 n0 B ys->wI B ys->ys.map YB.g=f.blocks->dU FF fv [.agg ⟨aC f.name pn aB B⟩] h1 (fun v h'=>∃m,P f m/\vU f.name pn n0 B ys m h1 v h')):bc FF 31 [.agg ⟨[G.v,F.v]⟩,fv] h (agw P u.globals u.funcs h):=by
 obtain⟨ys,yU,hys,hY⟩:=am0 hu.1;obtain⟨zs,wK,Kn,hZ⟩:=amW hu.2;refine bc.of Nw ?_;unfold Dq;have n1:¬h.aw=h.aw+1:=ab
 have n2:¬h.aw=h.aw+1+1:=ab
 simp[n1,n2];refine bm.cut (fun h1=>ay aZ h h1/\(dg h1 h.aw [G.v,F.v])/\(dg h1 (h.aw+1) [.slice none 0 0,.slice none 0 0])/\(dg h1 (h.aw+1+1) [.int .i64 0,.int .i64 0])) ?_ ?_;exact⟨(((ay.refl ok).new _ _).new _ _).new _ _,⟨0,by simp[n1,n2]⟩,⟨0,ae⟩,⟨0,ae⟩⟩;rintro h1⟨N,⟨sU,hU1⟩,⟨s1,auw⟩,⟨s2,anF⟩⟩;have lR:=N.ok.wf _ _ anF;refine bm.call (V:=jV Cu h1 ys) (aj (kC Cu (bytes:=48) kY rfl ag N.ok (hys.ck ok N) ab)) ?_;rintro _ h2⟨O,W,rfl,Wi,j,_⟩;have EZ:=O.get N.ok hU1;have Ob:=EZ;simp at Ob;have aiD:=O.get N.ok auw;have auz:=O.get N.ok anF;have Wj:=Wi.len;simp[Ob];refine aO.cut (fun h3=>ay (· =h.aw) h2 h3/\dg h3 h.aw [W.v,F.v]) ?_ ?_
 exact⟨(ay.refl O.ok).put ⟨_,Ob⟩ (.inr rfl),h2.clock,ae⟩;rintro h3⟨Q,sU3,Hm⟩;have l2:=O.aw;have jC:=N.trans O;have ef:ay aZ h h3:=jC.trans' Q ai (fun x Y e=>ab);have nG:∀x,x<h1.aw->¬bt W.v x:=fun x Y e=>av (j x e)
 have hG3:=Wi.grow O.ok Q (fun b d e=>av (j b d));have afm:=Q.get O.ok aiD ab;have auA:=Q.get O.ok auz ab;refine KJ (fv:=fv) (R1:=h.aw+1) (R2:=h.aw+1+1) (f:=cK) ok ef Hm (nG _ ab) hG3 (fun b d=>by have:=j b d;have:=N.aw;omega) ⟨yU,fun i y g a b=>⟨(hY i y g a b).1,(hY i y g a b).2.1⟩⟩ (fun i y g a b=>(hY i y g a b).2.2) hgl E6 ae ae ae ae ae (by simp[Wj,yU]) ae ?_;intro e4 h4 ys4 q1 q2 q4 q5 s hG4 hS4 hD4;have pT:ay aZ h h4:=ef.trans' s ai (fun x Y e=>by have:=j x e;have:=N.aw;omega);have XU:=s.get Q.ok Hm (nG _ ab);have auy:=s.get Q.ok afm (nG _ ab);have auB:=s.get Q.ok auA (nG _ ab);have abK:=XU;simp at abK;simp[q2,abK];refine bm.call (V:=jV uZ h4 zs) (aj (kC uZ (bytes:=56) nV rfl ag s.ok (Kn.ck ok pT) ab)) ?_;rintro _ h5⟨J,F',rfl,TV,I,_⟩;have hU5:=J.get s.ok XU;have aiJ:=hU5;simp at aiJ;have l34:h2.aw<=h4.aw:=sx Q.aw s.aw;have wJ:=TV.len;have hG5:=hG4.ck s.ok J;simp[q2,aiJ];refine aO.cut (fun h6=>ay (· =h.aw) h5 h6/\dg h6 h.aw [W.v,F'.v]) ?_ ?_
 exact⟨(ay.refl J.ok).put ⟨_,aiJ⟩ (.inr rfl),h5.clock,ae⟩;rintro h6⟨D,sU6,hU6⟩;have l5:=J.aw;have Wf:ay aZ h h6:=(pT.trans J).trans' D ai (fun x Y e=>ab);have g46:ay (· =h.aw) h4 h6:=J.ck.trans D;have nF:∀x,x<h4.aw->¬bt F'.v x:=fun x Y e=>av (I x e)
 have hF6:=TV.grow J.ok D (fun b d e=>av (I b d));have hG6:=hG5.grow J.ok D (fun b d e=>av (j b d));have afn:=g46.get s.ok auy ab;have afo:=g46.get s.ok auB ab;have l1:=N.aw;refine Qm (R1:=h.aw+1) (R2:=h.aw+1+1) (U:=h.aw) (zs0:=zs) (fs:=u.funcs) ok Wf hU6 afn afo ab (nF _ ab) (nF _ ab) (nF _ ab) hF6 (fun b d=>av (I b d)) wK hZ lZ fO hP (fun f hf h1 pn n0 aB B rs a1 a2 a3 a4 a5 a6 a7 a8 a9 a10 a11=>H f hf h1 pn n0 aB B rs a1 (Wf.trans' a2 ai (fun x Y e=>av (I x e))) a3 (av Wf.aw) a5 a6 a7 a8 a9 a10 a11) (au q1) (au q2) (au q4) (au q5) ae (by simp[wJ,wK]) ae ?_ ?_
 rintro e7 h7 a f m b1 b2 b3 b4 k4 k5 q⟨t1,hA⟩ ⟨t2,hB⟩;simp[k4,k5,hA,hB];exact⟨Wf.trans' q ai (fun x Y e=>by rcases e with e|e|e;have:=I x e;omega;omega;omega),cK,cK,10,a,rfl,.inl ⟨a,rfl,rfl,rfl,rfl,f,m,b1,b2,b3,b4⟩⟩
 .intro e7 h7 zs7 k2 k4 k5 q hF7 hl7 hD7;have hU7:=q.get D.ok hU6 (nF _ ab);have abI:=q.get D.ok afn (nF _ ab);have abJ:=q.get D.ok afo (nF _ ab);have anM:=hU7;simp at anM;have hFG:∀b,bt W.v b->¬bt F'.v b:=fun b d h=>by have:=hG4.cn s.ok d;have:=I b h;omega
  have hG7:=hG6.grow D.ok q hFG;simp[k2,k4,k5,anM,abI,abJ];have w:=((ay.refl q.ok).put (S:=fun x=>x=h.aw+1\/x=h.aw+1+1) (off:=0) (vs:=[Value.slice W.a W.l W.c,Value.slice F'.a F'.l F'.c]) ⟨_,abI⟩ (.inr (.inl rfl))).put (b:=h.aw+1+1) (off:=0) (cs:=[.int .i64 0,.int .i64 0]) (o:=0) (vs:=[.int .i64 0,.int .i64 0]) ⟨s2,au abJ⟩ (.inr (.inr rfl));have l6:=D.aw;generalize put (put h7 _ _ _ _ _) _ _ _ _ _=h8 at w⊢;have gw8:∀x,x=h.aw+1\/x=h.aw+1+1->x<h1.aw:=fun x e=>ab
  have hF8:=hF7.grow q.ok w (fun b d e=>av (I b d));obtain⟨DI,V8,M8⟩:=Mr (P:=PL P) (M:=h1.aw) w.ok hF8 (fun b d=>av (I b d)) hl7 (fun i z f a b=>by obtain⟨n0,ys,many,hM,r⟩:=(hD7 i z f a b).grow q.ok w (fun x e=>.inl ab);exact⟨n0,ys,many,ab,r⟩);have hG8:=hG7.grow q.ok w (fun b d e=>av (j b d));refine⟨(Wf.trans' q ai (fun x Y e=>av (I x e))).trans' w ai (fun x Y e=>ab),W,F',0,0,ae,.inr ⟨rfl,rfl,DI,fun S h9 g9 hS=>?_,M8⟩⟩;have hS1:∀c,S c->c<h1.aw\/h8.aw<=c:=fun c Z=>(hS c Z).imp (fun e=>ab) id;refine⟨(hG8.grow w.ok g9 (fun b d e=>by have:=j b d;have:=hS1 b e;have:=hG8.cn w.ok d;omega)).view hS4.1.symm (fun i y g a b=>?_),V8 S h9 g9 hS1⟩;obtain⟨k1,k2⟩:=hD4 i y g a b;obtain⟨e1,e2⟩:=hS4.2 i y g a b;have l3:=Q.aw;have lI:∀c,eR y.I=some c->c<h4.aw:=fun c e=>k1.lt s.ok e;have k3:=(((k1.ck s.ok J).go J.ok D (fun c Z e=>av (k2 c e))).go D.ok q (fun c Z e=>by have:=I c Z;have:=lI c e;omega)).go q.ok w (fun c Z e=>av (k2 c e));have k4:=k3.go w.ok g9 (fun c Z e=>by have:=k2 c e;have:=hS1 c Z;have:=k3.lt w.ok e;omega);exact⟨y.I,by simp[e1,e2],k4.view rfl (fun i x y a c=>by rw[a] at c;cases c;rfl)⟩
def Steps.lists{a b:List GB}(s:Steps a b):gT b=gT a:=by
 induction s with
 |refl=>rfl
 |step _ c d=>rw[c.lists,d]
def adO{p:Nat}{d:Nat×List GB}(E:EB bs)(L:∀b∈bs,b.list.length<=1000)(T:PE p bs d):aeC d.2:=by
 obtain⟨o,S,_,s,rfl⟩:=T;have C:=E.D7;have w:=s.D7;have I:=s.n50;have O:=w.o.len;have J:gT o<=50000:=by rw[S.lists];have Q:=C.o.len;have:=E.n50;refine sx (DV (k:=1000) fun b j=>?_) (by rw[show(bh bs (dP bs)).length=(dP bs).length by simp[bh]];exact CX 1000 (m:=50) ab);unfold bh at j;obtain⟨k,q,rfl⟩:=jo.1 j;obtain⟨X,c⟩:=aV bs k (C.o.lt k q);rw[c];exact L X (cN c)
 refine⟨by simp[wy,bh];omega,fun b j=>?_⟩;simp only[wy,bh] at j;obtain⟨y,D,rfl⟩:=jo.1 j;obtain⟨k,q,rfl⟩:=jo.1 D;obtain⟨X,c⟩:=aV o k (w.o.lt k q);rw[c];have h1:=s.pl X (cN c);have N:=xp c;simp[Ee,dY];omega
def Qg{h:az}(m:cr h)(hw:0<=aI/\aI<1000000000){W sW:Nat}(q:fC h W [.int .i64 aI] sW){name:ByteArray}{p n0 aB:Nat}(uU:n0<=h.aw)(O:FZ h n0 B ys)(xi:wI B ys)(E:EB (ys.map YB.g))(R:kV aB (ys.map YB.g))(Lb:∀b∈ys.map YB.g,b.list.length<=1000)(T:vg aB (ys.map YB.g))(I:∀b∈ys.map YB.g,FN aI aB b)(nd:((ys.map YB.g).flatMap qF).Nodup)(hp:p<=aB)(DR:aB<1000000):dU FF (.func (.func 32) #[] #[.pointer (some ⟨W,0,none⟩)]) [.agg ⟨aC name p aB B⟩] h (fun v h'=>∃d,VH aI p aB (ys.map YB.g) d/\vU name p n0 B ys d h v h'):=by
 refine dU.func ?_;refine bc.of PU ?_;unfold FT;have n1:¬h.aw=h.aw+1:=ab
 have lW:=m.wf _ _ q;have oW:=m.cn q;have w:¬W=h.aw:=ab
 have s:¬W=h.aw+1:=ab
 simp[aC,n1,q,w,s];refine bm.cut (fun h1=>ay aZ h h1/\(dg h1 (h.aw+1) [.string ⟨⟨[]⟩⟩,.int .i64 0,.int .i64 0,.slice none 0 0])) ?_ ?_;exact⟨((ay.refl m).new _ _).new _ _,⟨0,ae⟩⟩;rintro h1⟨j,⟨sR,Q⟩⟩;have l1:=j.aw;have lR:=j.ok.wf _ _ Q;refine bm.call (V:=fun v h'=>∃d,VH aI p aB (ys.map YB.g) d/\vU name p n0 B ys d h1 v h') (by simpa [aC] using NQ j.ok hw (name:=name) (p:=p) ab (O.ck m j) xi E R Lb T I nd hp DR) ?_;rintro _ h2⟨d,D,o,y2,rfl,T2,M2⟩;have N:¬cx B ys (h.aw+1):=fun e=>av (O.mo m e)
 have J:¬cx o y2 (h.aw+1):=fun e=>(T2.s _ e).elim N ab;have Z:=T2.g.get j.ok Q N;simp[aC,Z];have Y:=(ay.refl T2.g.ok).put (S:=(· =h.aw+1)) (off:=0) (vs:=[Value.string name,Value.int .i64 p,Value.int .i64 d.1,Value.slice o.a o.l o.c]) ⟨_,Z⟩ (.inr rfl);generalize put h2 _ _ _ _ _=h3 at Y⊢;exact⟨d.1,d.2,D,o,y2,by simp[aC],(((cM.refl O m).ck j).trans T2).go Y (fun c e=>⟨ab,fun h=>by rw[e] at h;exact J h⟩),M2⟩
def Bp(aI:Int):kM:=fun f c=>VH aI f.params.toNat f.aB.toNat f.blocks c
def DoZ(P:kM)(u:GU)(d o:Int)(h:az)(v:Value)(h':az):Prop:=
 ay aZ h h'/\∃(j m:SV) (c a:Int),v=.tuple #[.agg ⟨[j.v,m.v]⟩,.agg ⟨[.int .i64 c,.int .i64 a]⟩]/\((d≠0/\c=d/\a=o/\j=cK/\m=cK)\/(d=0/\o=0/\Bs u/\FK P u.globals u.funcs h.aw h' j m c a))
def FK.go{S:Nat->Prop}{P:kM}{gs:List GG}{fs:List GF}{M:Nat}{h h':az}{G F:SV}{c a:Int}(w:FK P gs fs M h G F c a)(g:ay S h h')(m:∀c,S c->c<M\/h.aw<=c):FK P gs fs M h' G F c a:=
 w.imp id fun⟨h1,j,d,q,o⟩=>⟨h1,j,d,q.go g m,o⟩
def FK.low{P:kM}{M d:Nat}{h:az}{G F:SV}{c a:Int}(w:FK P gs fs M h G F c a)(l:d<=M):FK P gs fs d h G F c a:=
 w.imp id fun⟨h1,m,j,s,q⟩=>⟨h1,m,j,fun S h' g o=>s S h' g fun c D=>(o c D).imp (fun e=>ab) id,q⟩
def Xu{h:az}(ok:cr h){G F:SV}(hu:uR h G F u){N a0:Int}(K:∀h1,ay aZ h h1->bc FF 13 [.agg ⟨[G.v,F.v]⟩] h1 (fun v h'=>v=.agg ⟨[.int .i64 N,.int .i64 a0]⟩/\xJ (Bs u) h1 v h')):bc FF 12 [.agg ⟨[G.v,F.v]⟩] h (DoZ (Bp (ig u.globals)) u N a0 h):=by
 refine bc.of Xq ?_;unfold Lz;have e1:¬h.aw=h.aw+1:=ab
 have e2:¬h.aw=h.aw+1+1:=ab
 simp[e1,e2];refine bm.cut (fun h1=>ay aZ h h1/\(dg h1 h.aw [G.v,F.v])/\(dg h1 (h.aw+1) [.slice none 0 0,.slice none 0 0])/\(dg h1 (h.aw+1+1) [.int .i64 0,.int .i64 0])) ?_ ?_;exact⟨(((ay.refl ok).new _ _).new _ _).new _ _,⟨0,by simp[e1,e2]⟩,⟨0,ae⟩,⟨0,ae⟩⟩;rintro h1⟨O,⟨sU,hU1⟩,⟨s1,hA1⟩,⟨s2,Q⟩⟩;refine bm.call (V:=fun v h'=>v=.agg ⟨[.int .i64 N,.int .i64 a0]⟩/\xJ (Bs u) h1 v h') (aj (K h1 O)) ?_;rintro _ q⟨rfl,m,c,a,ec,s⟩;simp at ec;obtain⟨rfl,rfl⟩:=ec;have jC:=O.trans m;have EZ:=m.get O.ok hU1;have Ix:=m.get O.ok hA1;have Wh:=m.get O.ok Q;have lB:=O.ok.wf _ _ Q;have l2:=m.aw;have D:¬h.aw+1+1=h.aw+1:=ab
 have W:¬h.aw+1=h.aw+1+1:=ab
 rcases s with s|⟨rfl,rfl,j⟩
 .have SP:(N==0)=false:=by simp[s]
  have nA2:¬h.aw+1=q.aw:=ab
  have nB2:¬h.aw+1+1=q.aw:=ab
  have awP:¬q.aw=h.aw+1:=ab
  have awR:¬q.aw=h.aw+1+1:=ab
  simp[SP,Ix,Wh,nA2,nB2,awP,awR,D,W,aH,aQ];have g3:ay aZ h (tick (put (aK q [.int .i64 0,.int .i64 0] 0) q.aw 0 [.int .i64 0,.int .i64 0] [.int .i64 N,.int .i64 a0] 0)):=(jC.var _ _).tick;exact⟨(g3.put ⟨s1,by simp[Ix,nA2]⟩ (.inl ab)).put ⟨s2,by simp[Wh,nB2,D]⟩ (.inl ab),cK,cK,N,a0,rfl,.inl ⟨s,rfl,rfl,rfl,rfl⟩⟩
 .have Ob:=EZ;simp at Ob;have nU:¬h.aw=q.aw:=ab
  simp[Ob,nU];refine bm.cut (fun h3=>ay aZ q h3) ((ay.refl m.ok).var _ _) ?_;intro h3 g3;have ef:=jC.trans g3;have C:aeG u.globals:=⟨j.unit.gn,fun g hg=>⟨(j.unit.gs g hg).1,(j.unit.gs g hg).2.1⟩⟩;refine bm.call (V:=Ng u.globals h3) (aj (Q7 (F:=F) ef.ok (agJ (hu.1.mono ok ef fun _ _ r=>r)) C)) ?_;rintro _ h4⟨J,rfl⟩;have w:=g3.trans J;have XU:=w.get m.ok EZ;have TO:=w.get m.ok Ix;have Z:=w.get m.ok Wh;have abK:=XU;simp at abK;have lB4:=J.ok.wf _ _ Z;have nU4:¬h.aw=h4.aw:=ab
  simp[abK,nU4];refine bm.cut (fun Y=>ay aZ h4 Y/\dg Y h4.aw [.int .i64 (ig u.globals)]) ⟨(ay.refl J.ok).var _ _,h4.clock,by simp[bg]⟩ ?_;rintro Y⟨I,sW,hW5⟩;have u3:=(ef.trans J).trans I;have CY:=I.get J.ok TO;have hB5:=I.get J.ok Z;have hwd:=FI C.2;have hgl:=C.1;refine bm.call (V:=agw (Bp (ig u.globals)) u.globals u.funcs Y) (by simpa using TF (P:=Bp (ig u.globals)) (fv:=.func (.func 32) #[] #[.pointer (some ⟨h4.aw,0,none⟩)]) u3.ok (hu.mono ok u3) C.1 (fun g hg=>av ((j.unit.gs g hg).2)) j.unit.fn j.form (fun f hf res ⟨need,_,T⟩=>adO (j.form f hf).eb.FD (fun b hb=>by obtain⟨x,hx,rfl⟩:=jo.1 hb;exact sx (EW _ _) ((j.form f hf).Ww x hx)) T) (fun f hf h1 pn n0 aB B ys a1 a2 a3 a4 a5 a6 a7 a8 a9 a10 d=>by
   have F1:=j.form f hf;have er:f.aB.toNat=aB:=ab
   have ep:f.params.toNat=pn:=ab
   have K:=Qg a1 (aI:=ig u.globals) ab (a2.get u3.ok hW5) (name:=f.name) (p:=pn) (aB:=aB) a3 a9 a10 (by rw[d];exact F1.eb) (by rw[d,<-er];exact F1.adn) (by rw[d];exact F1.Ww) (by rw[d,<-er];exact F1.O8) (by rw[d,<-er];exact F1.ahE _) (by rw[d];exact j.once f hf) a7 a8;rw[d] at K;unfold Bp;rw[er,ep];exact K)) ?_
  rintro _ h6⟨g6,G',F',c,a,rfl,s⟩;have XN:=g6.get I.ok CY;have hB6:=g6.get I.ok hB5;simp[XN,hB6,D,W];have gw:=((ay.refl g6.ok).put (S:=fun x=>x=h.aw+1\/x=h.aw+1+1) (off:=0) (vs:=[Value.slice G'.a G'.l G'.c,Value.slice F'.a F'.l F'.c]) ⟨_,XN⟩ (.inr (.inl rfl))).put (b:=h.aw+1+1) (off:=0) (cs:=[.int .i64 0,.int .i64 0]) (o:=0) (vs:=[.int .i64 c,.int .i64 a]) ⟨s2,au hB6⟩ (.inr (.inr rfl));generalize put (put h6 _ _ _ _ _) _ _ _ _ _=h7 at gw⊢;have l6:h.aw+1+1<Y.aw:=I.ok.wf _ _ hB5;exact⟨(u3.trans g6).trans' gw ai (fun x hx e=>ab),G',F',c,a,ae,.inr ⟨rfl,rfl,j,(s.go gw fun c s=>.inl ab).low u3.aw⟩⟩
def Eh(xs:List Int)(y:YB):YB:= {y with ps:=y.ps.map (fun q=>(CL xs q.1,q.2)),ls:=y.ls.map (fun q=>(vb xs q.1,q.2)),on:=bq xs y.on}
def akn(xs:List Int)(y:YB):(Eh xs y).g=Ee xs y.g:=by simp[Eh,YB.g,Ee,List.map_map,Function.comp_def]
def RrB(h1:az)(n0 G R:Nat)(L B:SV)(ys:List YB)(xs:List Int)(name:ByteArray)(p r:Int)(m:Nat)(e:Env)(h':az):Prop:=
 ∃(i:Nat) (zs:List YB),m=ys.length-i/\i<=ys.length/\bH e 1=L.v/\cm e 4 R/\cm e 5 G/\bJ e 6 i/\cM h1 h' n0 B ys B zs/\zs=(ys.take i).map (Eh xs)++ys.drop i
def RV(dt:cr h0)(yP:ay aZ h0 h1){n0 G R sG:Nat}(l0:h0.aw<=n0)(hn:n0<=h1.aw)(hL:bj encI h0 L.v xs)(xl:xs.length<1000000)(W:FZ h1 n0 B ys)(xi:wI B ys)(Z:∀y∈ys,GQ y.g)(yU:ys.length<1000000){p r:Int}(hG:fC h1 G (aC name p r B) sG)(oG:¬cx B ys G)(f1:bH e 1=L.v)(f4:cm e 4 R)(f5:cm e 5 G)(f6:bJ e 6 0)(C:∀e' h',cm e' 4 R->cm e' 5 G->cM h1 h' n0 B ys B (ys.map (Eh xs))->QQ (.exit 0) e' h'):aO FF (.loop iP) e h1 QQ:=by
 have gi:=yP.ok;have dT:=W.A.len;refine aO.loop (RrB h1 n0 G R L B ys xs name p r) ?_ (n:=ys.length) ⟨0,ys,rfl,ab,f1,f4,f5,f6,.refl W gi,ae⟩;rintro m e' h'⟨i,zs,rfl,hi,q1,q4,q5,q6,T,Kn⟩;have bS:=T.g.ok;have lG:=gi.wf _ _ hG;have o:=T.g.get gi hG oG;have oG':¬cx B zs G:=fun e=>(T.s _ e).elim oG ab;have wK:zs.length=ys.length:=by rw[Kn];simp;omega
 simp[aC] at o;rw[dT] at o;unfold iP;by_cases gh:i<ys.length
 .have wi:=cg ((i:Int)+1) ab ab;obtain⟨y,u9⟩:=aV ys i gh;obtain⟨hy,II⟩:=xq (f:=Eh xs) u9 Kn;have z:=Z y (cN u9);obtain⟨bB,cB,oB,sB,N,Gg,hjB,dQ,cZ,fu⟩:=T.w.A.el hy;have rd:=cZ 0 6 ag;simp[-ax] at rd;rw[N] at o;simp[q1,q4,q5,q6,o,aF o,gh,rd,aH,-ax];have g2:ay aZ h' (put (aK h' [.slice none 0 0,.slice none 0 0,.int .i64 0,.bool false,.int .i64 0,.slice none 0 0] 0) h'.aw 0 [.slice none 0 0,.slice none 0 0,.int .i64 0,.bool false,.int .i64 0,.slice none 0 0] (dZ.enc y) 0):=(ay.refl bS).var _ _;have eC:(put (aK h' [.slice none 0 0,.slice none 0 0,.int .i64 0,.bool false,.int .i64 0,.slice none 0 0] 0) h'.aw 0 [.slice none 0 0,.slice none 0 0,.int .i64 0,.bool false,.int .i64 0,.slice none 0 0] (dZ.enc y) 0).tr.get h'.aw=some (.bZ (dZ.enc y) false 0 h'.clock):=by rw[aP];rfl
  simp only[DF,SV.yJ] at g2 eC;generalize put (aK h' _ 0) h'.aw 0 _ _ 0=h2 at*;have T2:=T.ck g2;have oX:¬cx B zs h'.aw:=fun⟨l,e⟩=>av (T.w.lt bS e)
  have ln:=T.g.aw;have RN2:RN h0 h2 n0 B zs L xs i y h'.aw:=⟨dt,yP.trans' T2.g ai (fun c hc ⟨l,e⟩=>av (W.new l c e)),l0,av T2.g.aw,hL,xl,T2.w,T2.x xi,hy,⟨_,aj eC⟩,oX⟩;refine ZC RN2 (by have:=z.lp;simp[YB.g] at this;omega) (fun q hq=>av (z.lr q.1 (EX hq))) (au q1) ae ae ?_;intro e3 h3 D T3;have RN3:=RN2.aw T3 rfl;simp;have k1:bH e3 1=L.v:=D.at (au q1);have k4:=D.at (t:=4) (ak q4);have k5:=D.at (t:=5) (ak q5);have k6:=D.at (t:=6) (ak q6);have k7:cm e3 7 h'.aw:=D.at ae;refine ZB RN3 (by have:=z.ll;simp[YB.g] at this;show y.ls.length<1000000;omega) (fun q hq=>av (z.la q.1 (EX hq))) (au k1) (au k7) ae ?_;intro e4 h4 J T4;have d:=RN3.aw T4 rfl;simp only[xF] at T4 d;have p1:bH e4 1=L.v:=J.at (au k1);have p4:=J.at (t:=4) (ak k4);have p5:=J.at (t:=5) (ak k5);have p6:=J.at (t:=6) (ak k6);have p7:=J.at (t:=7) (ak k7);obtain⟨sX4,kR⟩:=d.hX;simp at kR;have TT:=T2.trans (T3.trans T4);have s:=TT.g.get gi hG oG;have oG4:¬cx B _ G:=fun e=>(TT.s _ e).elim oG ab;have lX:h'.aw<h2.aw:=g2.ok.wf _ _ eC;have oX4:=d.oX;simp[aC] at s;rw[dT,N] at s;simp[p1,p7,kR];refine bm.call (V:=fun u Q=>ay aZ h4 Q/\u=.agg ⟨[.bool (bq xs y.on).1,.int .i64 (bq xs y.on).2]⟩) (aj (uq d.g.ok (d.hL.ck d.dt d.g) xl y.on)) ?_;rintro _ Q⟨g5,rfl⟩;have oJ:=g5.get d.g.ok kR;have hG5:=g5.get d.g.ok s;have nGX:¬G=h'.aw:=ab
  simp[p7,oJ];have g6:=aY (off:=3) (vs:=[.bool (bq xs y.on).1,.int .i64 (bq xs y.on).2]) g5.ok oJ;have po:(put Q h'.aw 3 [.slice y.P.a y.P.l y.P.c,.slice y.L.a y.L.l y.L.c,.int .i64 y.kind,.bool y.on.1,.int .i64 y.on.2,.slice y.T.a y.T.l y.T.c] [.bool (bq xs y.on).1,.int .i64 (bq xs y.on).2] 0).tr.get h'.aw=some (.bZ (dZ.enc (Eh xs y)) false 0 Q.clock):=by rw[aP];rfl
  simp only[DF,SV.yJ] at po;have w:=(TT.ck g5).go g6 (fun c e=>⟨ab,by rw[e];exact oX4⟩);have hG6:=g6.get g5.ok hG5 nGX;generalize put Q h'.aw 3 _ _ 0=h6 at*;have hi6:i<(zs.set i {y with ps:=y.ps.map (fun q=>(CL xs q.1,q.2)),ls:=y.ls.map (fun q=>(vb xs q.1,q.2))}).length:=by simp;omega
  have j:(zs.set i {y with ps:=y.ps.map (fun q=>(CL xs q.1,q.2)),ls:=y.ls.map (fun q=>(vb xs q.1,q.2))})[i]?=some {y with ps:=y.ps.map (fun q=>(CL xs q.1,q.2)),ls:=y.ls.map (fun q=>(vb xs q.1,q.2))} :=by rw[fL,bM rfl,bM ab]
  obtain⟨bB6,cB6,oB6,sB6,Y,I,_,abX,_,ack⟩:=w.w.A.el j;rw[N] at Y;cases Y;have hf6:=abX 0 6 ag;simp at hf6;simp[p5,p6,p7,hG6,po,gh,I,hf6,wi];have g7:=aY (off:=i*6) (vs:=dZ.enc (Eh xs y)) w.g.ok I;have hB7:=ack (Eh xs y) 0 (dZ.enc (Eh xs y)) ae (by simp[bg]) (put h6 bB (i*6) cB6 (dZ.enc (Eh xs y)) oB6) ⟨h6.clock,ae⟩;simp only[DF,SV.yJ] at g7 hB7;have Y6:=w.w.at j;have T7:=w.del (k:=.P) (y':=Eh xs y) id hn j (fun h=>h) (fun _ _ e=>e) (fun _=>Iff.rfl) (fun l c e=>e) (g7.cY fun c _ e=>.inr (by rw[e];exact cy N)) hB7 (fun no=>by
   have O:BZ _ _:=Y6.go w.g.ok g7 fun c l hc e=>by have:=w.w.tf none (some (i,l)) c (by rw[hc];exact cy N) (by rw[cz j];exact e);cases this
   exact⟨O.P,O.L,O.T,O.ps,O.ls⟩)
  rw[xF] at T7;refine⟨ys.length-(i+1),ab,i+1,zs.set i (Eh xs y),rfl,gh,au p1,au p4,au p5,ae,T7,II⟩
 .have:i=ys.length:=ab
  subst this;rw[jT,List.drop_length,Bc] at Kn;simp[q5,q6,o,aF o,-ax];exact C _ _ (au q4) (au q5) (by rw[<-Kn];exact T)
def Lh{h0 h:az}(dt:cr h0)(g0:ay aZ h0 h){name:ByteArray}{p r:Int}(hB:qg h0 B bs)(Z:∀b∈bs,GQ b)(qW:bs.length<100000)(hL:bj encI h0 L.v xs)(xl:xs.length<1000000):bc FF 96 [.agg ⟨aC name p r B⟩,L.v] h (mQ name p r (bs.map (Ee xs)) h):=by
 have ok:=g0.ok;have n1:¬h.aw=h.aw+1:=ab
 refine bc.of yL ?_;unfold pt;simp[aC,n1];refine bm.cut (fun h1=>ay aZ h h1/\(dg h1 (h.aw+1) [.string ⟨⟨[]⟩⟩,.int .i64 0,.int .i64 0,.slice none 0 0])) ?_ ?_;exact⟨((ay.refl ok).new _ _).new _ _,⟨0,ae⟩⟩;rintro h1⟨o,⟨sR,hR⟩⟩;have lR:=o.ok.wf _ _ hR;refine bm.call (V:=mQ name p r bs h1) (by simpa [aC] using vK dt (g0.trans o) (name:=name) (p:=p) (r:=r) hB Z qW) ?_;rintro _ m⟨d,q,ys,rfl,I,Y,O⟩;have w_:=d.get o.ok hR;have nR:¬h.aw+1=m.aw:=av d.aw
 simp[aC];refine aO.cut (fun D=>ay aZ m D/\D.aw=m.aw+1/\dg D m.aw (aC name p r q)) ⟨(ay.refl d.ok).var _ _,ae,m.clock,by simp[bg,aC]⟩ ?_;rintro D⟨s,n3,sG,hG⟩;have W3:=I.ck d.ok s;have l0:=g0.aw;have l1:=o.aw;have l2:=d.aw;have Ew:=s.get d.ok w_;have oG:¬cx q ys m.aw:=fun⟨l,e⟩=>av (I.lt d.ok e)
 have oR:¬cx q ys (h.aw+1):=fun⟨l,e⟩=>av (I.new l _ e)
 refine RV (G:=m.aw) (R:=h.aw+1) dt (((g0.trans o).trans d).trans s) (n0:=h1.aw) ab ab hL xl W3 Y (fun y hy=>Z y.g (by rw[<-O];exact EX hy)) (by have:=congrArg List.length O;simp at this;omega) hG oG ae ae ae ae ?_;intro e4 h4 q4 q5 j;have w:=j.g.get s.ok hG oG;have W:=j.g.get s.ok Ew oR;simp[aC] at w;simp[q4,q5,w,W];have Q:=aY (off:=0) (vs:=[.string name,.int .i64 p,.int .i64 r,q.v]) j.g.ok W;simp at Q;have J:ay aZ h h4:=((o.trans d).trans s).trans' j.g ai (fun c hc ⟨l,e⟩=>av (I.new l c e));have N:¬cx q (ys.map (Eh xs)) (h.aw+1):=fun e=>(j.s _ e).elim oR ab;exact⟨J.trans' Q ai (fun c hc e=>ab),q,ys.map (Eh xs),by simp[aC],(j.w.go j.g.ok Q fun c l e hl=>by rw[e] at hl;exact N ⟨l,hl⟩).cY ab,j.x Y,by rw[List.map_map,<-O,List.map_map];exact List.map_congr_left fun y _=>akn xs y⟩
structure aaJ(p:Nat)(bs:List GB):Prop where
 hp:p<1000
 yl:bs.length<=100
 pl:∀b∈bs,b.bD.length<=300
 ll:∀b∈bs,b.list.length<=300
 al:∀b∈bs,∀x∈b.list,x.args.length<=100
 rl:∀b∈bs,∀q∈b.bD,q.row.length<50000
 l1:∀j,(qJ (kT p) (bs.take j)).length<50000
 l2:∀i b j,bs[i]?=some b->(Bl (yF (qJ (kT p) bs) (bs.take i)) (b.bD.take j)).length<50000
 l3:(DY p bs).length<50000
def Vd{h:az}(c:cr h){name:ByteArray}{p n0:Nat}{r:Int}(W:FZ h n0 B ys)(M:aaJ p (ys.map YB.g)):bc FF 95 [.agg ⟨aC name p r B⟩] h (fun v h'=>ay aZ h h'/\∃L:SV,v=L.v/\bu encI h.aw h' L.v (DY p (ys.map YB.g))):=
 Zo c W M.hp (aj M.yl) M.pl M.ll M.al M.rl M.l1 M.l2
def acB{bp:List Nat}(o:Ord bs.length bp)(w:bs.length<50)(Z:∀b∈bs,GQ b):∀b∈bh bs bp,GQ b:=fun b c=>by unfold bh at c;obtain⟨k,m,rfl⟩:=jo.1 c;obtain⟨X,d⟩:=aV bs k (o.lt k m);have z:=Z X (cN d);have s:=o.len;rw[d];refine⟨by simpa [dY] using z.lp,z.ll,fun p j=>?_,z.la,by simpa [dY] using z.lt⟩;obtain⟨q,_,rfl⟩:=jo.1 j;have:=Fz (fB (aR (nI bp)) ((aX bs k).zip q.row)) bp.length;simp only[mi];omega
def eB(p:Nat)(bs:List GB):Nat×List GB:=((DY p (bh bs (dP bs))).length,(bh bs (dP bs)).map (Ee (DY p (bh bs (dP bs)))))
def RO{h0 h:az}(dt:cr h0)(g0:ay aZ h0 h){name:ByteArray}{p:Nat}{r:Int}(hB:qg h0 B bs)(E:EB bs)(Z:∀b∈bs,GQ b)(M:aaJ p (bh bs (dP bs))):bc FF 41 [.agg ⟨aC name p r B⟩] h (mQ name p (eB p bs).1 (eB p bs).2 h):=by
 have ok:=g0.ok;have n1:¬h.aw=h.aw+1:=ab
 have n2:¬h.aw=h.aw+1+1:=ab
 have o:=E.D7.o;have ol:=o.len;have LY:=E.n50;have kl:(bh bs (dP bs)).length=(dP bs).length:=by simp[bh]
 have ZK:=acB o LY Z;refine bc.of AS ?_;unfold r9;simp[aC,n1,aQ,bw,ed,-ax];refine cu.cut (fun h1=>ay aZ h h1/\h1.aw=h.aw+3/\h1.tr.get h.aw=some (.bZ (aC name p r B) false 0 0)/\(dg h1 (h.aw+1) [.string ⟨⟨[]⟩⟩,.int .i64 0,.int .i64 0,.slice none 0 0])/\h1.tr.get (h.aw+2)=some (.bZ [.string ⟨⟨[]⟩⟩,.int .i64 0,.int .i64 0,.slice none 0 0] false 0 0)) ?_ ?_;exact⟨((((ay.refl ok).new _ _).new _ _).tick).new _ _,ae,by simp[aC,n1,n2],⟨0,ae⟩,ae⟩;rintro h1⟨s,nx,hF,⟨sR,hR⟩,hX⟩;have l0:=g0.aw;refine cu.call (V:=fun v h'=>ay aZ h1 h'/\∃L:SV,v=L.v/\bu encI h1.aw h' L.v (nI (dP bs))) (by simpa [aC] using Gv s.ok (name:=name) (p:=p) (r:=r) (hB.mono dt (g0.trans s)) E.ends E.n1) ?_;rintro _ h2⟨q,O,rfl,J⟩;have Hi:=(g0.trans s).trans q;have jz:=q.get s.ok hF;have w_:=q.get s.ok hR;have eC:=q.get s.ok hX;simp[aC] at jz;simp[jz];refine cu.call (V:=mQ name p r (bh bs (dP bs)) h2) (by simpa [aC] using CM Hi.ok (.refl Hi.ok) (name:=name) (p:=p) (r:=r) (hB.mono dt Hi) E Z J.sl ab o.lt) ?_;rintro _ h3⟨D,W,ys,rfl,W3,xi3,w⟩;have Ew:=D.get q.ok w_;have N:=D.get q.ok eC;have eX:h.aw+2=h.aw+1+1:=rfl;rw[eX] at N;simp[aC,N];have j:=aY (off:=0) (vs:=[.string name,.int .i64 p,.int .i64 r,W.v]) D.ok N;have kR:(put h3 (h.aw+1+1) 0 [.string ⟨⟨[]⟩⟩,.int .i64 0,.int .i64 0,.slice none 0 0] [.string name,.int .i64 p,.int .i64 r,W.v] 0).tr.get (h.aw+1+1)=some (.bZ [.string name,.int .i64 p,.int .i64 r,W.v] false 0 h3.clock):=by rw[aP];rfl
 simp only[SV.yJ] at j kR;have KP:=j.get D.ok Ew ab;have l1:=s.aw;have l2:=q.aw;have W4:=W3.go D.ok j (fun c l e Q=>av (W3.new l c Q));have ef:=(s.trans q).trans D;have pT:ay aZ h _:=ef.trans' j ai (fun c hc e=>ab);generalize put h3 (h.aw+1+1) 0 _ _ 0=h4 at*;refine bm.call (V:=fun v h'=>ay aZ h4 h'/\∃L:SV,v=L.v/\bu encI h4.aw h' L.v (DY p (bh bs (dP bs)))) (by rw[<-w];simpa [aC] using Vd j.ok (name:=name) (r:=r) W4 (by rw[w];exact M)) ?_;rintro _ h5⟨m,L,rfl,qq⟩;have W5:=W4.ck j.ok m;have oJ:=m.get j.ok kR;have Ak:=m.get j.ok KP;have ll:(DY p (bh bs (dP bs))).length<1000000:=by exact Kf M.l3 ag
 simp[oJ];refine bm.call (V:=mQ name p r ((bh bs (dP bs)).map (Ee (DY p (bh bs (dP bs))))) h5) (by rw[<-w];simpa [aC] using Lh m.ok (.refl m.ok) (name:=name) (p:=p) (r:=r) W5.view (by rw[w];exact ZK) (by rw[w];omega) (by rw[w];exact qq.sl) (by rw[w];exact ll)) ?_;rintro _ h6⟨I,d,y6,rfl,W6,x6,M6⟩;have po:=I.get m.ok oJ;have Ex:=I.get m.ok Ak;have jt:L.l=(DY p (bh bs (dP bs))).length:=by obtain⟨a,cap,e,_⟩:=id qq.sl;simp at e;exact e.2.1
 simp[aC,po,Ex,jt];have Y:=(((ay.refl I.ok).put (S:=fun x=>x=h.aw+1\/x=h.aw+1+1) (off:=0) (vs:=[Value.string name,Value.int .i64 p,Value.int .i64 r,Value.slice d.a d.l d.c]) ⟨_,po⟩ (.inr (.inr rfl))).put (b:=h.aw+1+1) (off:=2) (cs:=[Value.string name,Value.int .i64 p,Value.int .i64 r,Value.slice d.a d.l d.c]) (o:=0) (vs:=[Value.int .i64 (DY p (bh bs (dP bs))).length]) ⟨h6.clock,by simp[bg]⟩ (.inr (.inr rfl))).put (b:=h.aw+1) (off:=0) (cs:=[Value.string ⟨⟨[]⟩⟩,Value.int .i64 0,Value.int .i64 0,Value.slice none 0 0]) (o:=0) (vs:=[Value.string name,Value.int .i64 p,Value.int .i64 (DY p (bh bs (dP bs))).length,Value.slice d.a d.l d.c]) ⟨sR,au Ex⟩ (.inr (.inl rfl));generalize put (put (put h6 _ _ _ _ _) _ _ _ _ _) _ _ _ _ _=h7 at Y⊢;have l5:=m.aw;have l4:=j.aw;have l3:=D.aw;exact⟨((pT.trans m).trans I).trans' Y ai (fun c hc e=>ab),d,y6,by simp[aC,eB],(W6.go I.ok Y fun c l e Q=>av (W6.new l c Q)).cY ab,x6,M6⟩
def alZ(h1:az)(S:Nat)(bs:List GB)(m:Nat)(e:Env)(h':az):Prop:=
 ∃b:Nat,b=m/\b<=bs.length/\cm e 1 S/\bJ e 3 ((b:Int)-1)/\ay aZ h1 h'/\∀x,b<=x->uV bs x
def al0(bs:List GB)(h:az)(v:Value)(h':az):Prop:=ay aZ h h'/\((v=.int .i64 (-1)/\∀x,uV bs x)\/∃(b t:Nat) (B T:GB),v=.int .i64 b/\dm bs b t B T)
def Rz{h0 h:az}(dt:cr h0)(g0:ay aZ h0 h){name:ByteArray}{p r:Int}(hB:qg h0 B bs)(E:EB bs):bc FF 40 [.agg ⟨aC name p r B⟩] h (al0 bs h):=by
 have dT:=aD.len hB;have LY:=E.n50;have ok:=g0.ok;refine bc.of AY ?_;unfold si;have w0:=cg ((bs.length:Int)-1) ab ab;simp[aC,dT,w0];refine aO.cut (fun h1=>ay aZ h h1/\dg h1 h.aw (aC name p r B)) ⟨(ay.refl ok).new _ _,0,by simp[aC,dT]⟩ ?_;rintro h1⟨g1,sS,hS⟩;refine aO.loop (alZ h1 h.aw bs) ?_ (n:=bs.length) ⟨bs.length,rfl,ab,ae,ae,.refl g1.ok,fun x hx t X T c=>av ((di.mp c.hb).1)⟩;rintro m e h'⟨b,rfl,hb,I,q3,g,H⟩;have bS:=g.ok;have gg:=(g0.trans g1).trans g;have o:=g.get g1.ok hS;simp[aC] at o;unfold pI;by_cases IB:b=0
 subst IB;simp[q3];exact⟨g1.trans g,.inl ⟨rfl,fun x=>H x ab⟩⟩
 .obtain⟨c,rfl⟩:∃c,b=c+1:=⟨b-1,ab⟩;have j:bH e 3=.int .i64 (c:Int):=by rw[q3];congr 1;omega
  have w1:=cg ((c:Int)-1) ab ab;obtain⟨X,J⟩:=aV bs c;have hXm:=cN J;obtain⟨bB,YO,cB,fp,Gj,_,⟨P,L,T,rfl,sP,sL,sT⟩,oB,cZ⟩:=aD.later dt hB J;have Y:=cZ h' gg 2 4 ag;simp[-ax] at Y;rw[fp,dT] at o;have w:(0:Int)<=c:=ab
  have next:(∀u U V,¬dm bs c u U V)->∀x,c<=x->uV bs x:=fun hc x hx=>by by_cases e:x=c;rw[e];exact hc;exact H x ab
  have s:∀(e':Env)(Z:az),cm e' 1 h.aw->bJ e' 3 ((c:Int)-1)->ay aZ h1 Z->(∀u U V,¬dm bs c u U V)->∃m,m<c+1/\alZ h1 h.aw bs m e' Z:=fun e' Z a1 a2 a3 a4=>⟨c,ab,c,rfl,ab,a1,a2,a3,next a4⟩;have Gj:c<bs.length:=ab
  rcases E.kind X hXm with⟨O,D⟩|⟨O,t,D⟩|⟨O,t,u,D,_⟩;simp[I,j,w,o,aF o,Gj,Y,O,w1,aH,aQ,-ax];exact s _ _ (au I) ae ((g.var _ _).tick) (fun u U V d=>by have:=d.k2;have:=d.hb;rw[J] at this;cases this;omega)
  .obtain⟨t1,t2⟩:=E.to X hXm t (by rw[D];simp);obtain⟨u,rfl⟩:∃u:Nat,t=u:=⟨t.toNat,ab⟩;have Wt:u<bs.length:=ab
   have u5:T.l=1:=by have:=aD.len sT;rw[D] at this;simpa using this
   obtain⟨bT,ajW,cT,Bh,_,_,rT,oT,Of⟩:=aD.later dt sT (i:=0) (x:=(u:Int)) (by rw[D];rfl);cases rT;have N:=Of h' gg 0 1 ag;simp[-ax] at N;obtain⟨V,hV⟩:=aV bs u Wt;obtain⟨bB2,aAA,cB2,abB,_,_,⟨P2,L2,T2,rfl,sP2,sL2,sT2⟩,oB2,Ha⟩:=aD.later dt hB hV;rw[fp] at abB;cases abB;have rd2:=Ha h' gg 0 1 ag;simp[-ax] at rd2;have hP2:=aD.len sP2;rw[Bh,u5] at Y;have oT':=gg.cn oT;have oB':=gg.cn oB;have oS:=bS.cn o;by_cases e1:u=c
   subst e1;simp[I,j,w,o,aF o,Gj,Y,N,O,w1,oT',aH,cH,bw,aQ,-ax];exact s _ _ (au I) ae ((g.var _ _).tick) (fun a U V d=>by have:=d.hb;rw[J] at this;cases this;have:=d.to;rw[D] at this;simp at this;exact d.ne ab);have Pg:((u:Int) !=c)=true:=by simp;omega
   cases hp:V.bD with
   |cons q l=>
    obtain⟨n,hn⟩:∃n,n=l.length+1:=⟨_,rfl⟩;have aiB:P2.l=n:=by rw[hP2,hp,hn];rfl
    have e2':¬n=0:=ab
    have Q:((n:Int)==0)=false:=nO ab;simp[I,j,w,o,aF o,Gj,Wt,Y,N,rd2,aiB,O,w1,Pg,e2',Q,oT',oB',oS,aH,cH,bw,aQ,-ax];exact s _ _ (au I) ae ((g.var _ _).tick) (fun a U W d=>by
     have:=d.hb;rw[J] at this;cases this;have:=d.to;rw[D] at this;simp at this;have ea:u=a:=ab
     subst ea;have:=d.ht;rw[hV] at this;cases this;have:=d.ph;rw[hp] at this;cases this)
   |nil=>
    have aiB:P2.l=0:=by rw[hP2,hp];rfl
    simp[I,j,w,o,aF o,Gj,Wt,Y,N,rd2,aiB,O,Pg,oT',oB',oS,aH,cH,bw,aQ,-ax];refine cu.cut (fun h2=>ay aZ h' h2) ((ay.refl bS).var _ _).tick ?_;intro h2 g2;refine cu.call (V:=fun v h'=>ay aZ h2 h'/\∃L:SV,v=L.v/\bu encI h2.aw h' L.v (aX bs u)) (by simpa [aC,fp,dT] using Gr g2.ok (name:=name) (p:=p) (r:=r) (hB.mono dt (gg.trans g2)) ab (fun x hx=>av (E.two hx)) (u:Int)) ?_;rintro _ h3⟨g3,L,rfl,acc⟩;have jt:L.l=(aX bs u).length:=by obtain⟨a,cap,e,_⟩:=id acc.sl;simp at e;exact e.2.1
    have g4:=(g.trans g2).trans g3;by_cases my:(aX bs u).length=1;simp[jt,my,j];exact⟨g1.trans g4,.inr ⟨c,u,X,V,rfl,J,hV,O,D,e1,hp,ab⟩⟩
    .have Q:(((aX bs u).length:Int)==1)=false:=nO ab;simp[jt,my,Q,j,w1];exact s _ _ (au I) ae g4 (fun a U W d=>by
      have:=d.hb;rw[J] at this;cases this;have:=d.to;rw[D] at this;simp at this;have ea:u=a:=ab
      subst ea;have h2:(c:Int)∈aX bs u:=cO.2 ⟨c,rfl,X,J,by rw[D];simp⟩;have:=d.one;have:=List.length_pos_of_mem h2;omega)
  simp[I,j,w,o,aF o,Gj,Y,O,w1,aH,aQ,-ax];exact s _ _ (au I) ae ((g.var _ _).tick) (fun u U V d=>by have:=d.k2;have:=d.hb;rw[J] at this;cases this;omega)
def ie(t b:Int)(e:Int×(Bool×Int)):Int×(Bool×Int):=if e.1=t then(b,e.2) else e
def JnE(h1:az)(E:SV)(t b:Int)(es:List (Int×(Bool×Int)))(e:Env)(m:Nat)(e':Env)(h':az):Prop:=
 ∃(j:Nat) (fs:List (Int×(Bool×Int))),m=es.length-j/\j<=es.length/\aM ([10]++(List.range 18).map (· +54)) e e'/\bJ e' 10 j/\ay (fun c=>eR E=some c) h1 h'/\eo iS h' E fs/\fs=(es.take j).map (ie t b)++es.drop j
def Uy(gi:cr h1){E:SV}{t b:Int}{es:List (Int×(Bool×Int))}(A:eo iS h1 E es)(lh:es.length<1000000)(f1:bJ e 1 b)(f5:bJ e 5 t)(f9:bH e 9=E.v)(J:bJ e 10 0)(C:∀O h',aM ([10]++(List.range 18).map (· +54)) e O->ay (fun c=>eR E=some c) h1 h'->eo iS h' E (es.map (ie t b))->QQ (.exit 4) O h'):aO FF (.loop jk) e h1 QQ:=by
 have I:=A.len;refine aO.loop (JnE h1 E t b es e) ?_ (n:=es.length) ⟨0,es,rfl,ab,aM.refl _ _,J,.refl gi,A,ae⟩;rintro m O h'⟨j,fs,rfl,hj,K,Q,g,V,o⟩;have q1:=K.at (t:=1) f1;have q5:=K.at (t:=5) f5;have q:=K.at (t:=9) f9;have lZ:fs.length=es.length:=by rw[o];simp;omega
 simp at q;rw[I] at q;unfold jk;by_cases D:j<es.length
 .have Z:=cg ((j:Int)+1) ab ab;obtain⟨x,hx⟩:=aV es j D;obtain⟨kG,W⟩:=xq (f:=ie t b) hx o;obtain⟨bE,cE,oE,sE,s,w,_,dQ,cZ,fu⟩:=V.el kG;have N:=cZ 0 1 ag;simp[-ax] at N;rw[s] at q;by_cases d:x.1=t
  .have Y:=dQ 0 1 ag;simp at Y;have Pk:((x.1:Int)==t)=true:=by simp[d]
   simp[q1,q5,q,Q,D,N,d,w,Y,Z,-ax];have g2:=aY (off:=j*3) (vs:=[.int .i64 b]) g.ok w;have A2:=fu (ie t b x) 0 [.int .i64 b] ae (by simp[bg,ie,d]) (put h' bE (j*3) cE [.int .i64 b] oE) ⟨h'.clock,ae⟩;refine⟨es.length-(j+1),ab,j+1,fs.set j (ie t b x),rfl,D,?_,ae,g.trans (g2.cY fun c _ e=>by rw[e];exact cy s),A2,W⟩
   exact aq
  .have Pk:((x.1:Int)==t)=false:=nO d;have e1:fs.set j (ie t b x)=fs:=by
    have:ie t b x=x:=by unfold ie;rw[bU d]
    rw[this];exact nr kG
   rw[e1] at W;simp[q1,q5,q,Q,D,N,d,Pk,Z,-ax];refine⟨es.length-(j+1),ab,j+1,fs,rfl,D,?_,ae,g,V,W⟩
   exact aq
 .have:j=es.length:=ab
  subst this;rw[jT,List.drop_length,Bc] at o;simp[q,Q];refine C _ _ ?_ g (by rw[<-o];exact V)
  exact aq
def sD(bs:List GB)(t b:Int)(i:Nat)(p:GP):GP:=⟨p.dst,iC ((pQ bs i p.row).map (ie t b)) bs.length⟩
structure JN(h0 h1:az)(n0 F H:Nat)(name:ByteArray)(p r:Int)(B0 B:SV)(bs:List GB)(ys:List YB):Prop where
 dt:cr h0
 g:ay aZ h0 h1
 hB:qg h0 B0 bs
 E:EB bs
 l0:h0.aw<=n0
 hn:n0<=h1.aw
 W:FZ h1 n0 B ys
 len:ys.length=bs.length
 hF:dg h1 F (aC name p r B0)
 hH:dg h1 H (aC name p r B)
 oF:¬cx B ys F
 oH:¬cx B ys H
section
variable{h0 h1 h':az}{n0 F H:Nat}{name:ByteArray}{p r:Int}{B0 B:SV}{bs:List GB}{ys zs:List YB}
def JN.aw(w:JN h0 h1 n0 F H name p r B0 B bs ys)(T:cM h1 h' n0 B ys B zs)(q:zs.length=ys.length):JN h0 h' n0 F H name p r B0 B bs zs:=by obtain⟨sF,j⟩:=w.hF;obtain⟨o,m⟩:=w.hH;have d:=w.g.ok;have s:=d.wf _ _ j;have D:=d.wf _ _ m;exact⟨w.dt,w.g.trans' T.g ai (fun c I ⟨l,e⟩=>by have:=w.W.new l c e;have:=w.l0;omega),w.hB,w.E,w.l0,by have:=w.hn;have:=T.g.aw;omega,T.w,q.trans w.len,⟨sF,T.g.get d j w.oF⟩,⟨o,T.g.get d m w.oH⟩,fun e=>(T.s _ e).elim w.oF ab,fun e=>(T.s _ e).elim w.oH ab⟩
def asa(h1:az)(n0:Nat)(B:SV)(ys:List YB)(i:Nat)(y:YB)(P:GP->GP)(e:Env)(m:Nat)(e':Env)(h':az):Prop:=
 ∃(j:Nat) (c:List (GP×SV)),m=y.ps.length-j/\j<=y.ps.length/\aM ([8,9,10]++(List.range 60).map (· +31)) e e'/\bJ e' 8 j/\cM h1 h' n0 B ys B (ys.set i {y with ps:=c})/\c.length=y.ps.length/\∀(k:Nat)(q d:GP×SV),y.ps[k]?=some q->c[k]?=some d->(k<j->d.1=P q.1)/\(j<=k->d=q)
def Yq(w:JN h0 h1 n0 F H name p r B0 B bs ys){y:YB}(hy:ys[i]?=some y)(hg:bs[i]?=some y.g){t b:Int}(f1:bJ e 1 b)(f2:cm e 2 F)(f5:bJ e 5 t)(f6:cm e 6 H)(f7:bJ e 7 i)(f8:bJ e 8 0)(C:∀e' h' o,aM ([8,9,10]++(List.range 60).map (· +31)) e e'->cM h1 h' n0 B ys B (ys.set i {y with ps:=o})->o.map (·.1)=y.g.bD.map (sD bs t b i)->QQ (.exit 2) e' h'):aO FF (.loop jl) e h1 QQ:=by
 have qW:=w.E.n50;have gi:=w.g.ok;have hi:=(di.mp hy).1;have gh:i<bs.length:=(di.mp hg).1;have TP:=aD.len w.hB;have dT:=w.W.A.len;have wg:y.ps.length<100000:=by have:=w.E.pl y.g (cN hg);simpa [YB.g] using this
 have e2:ys.set i {y with ps:=y.ps} =ys:=nr hy;refine aO.loop (asa h1 n0 B ys i y (sD bs t b i) e) ?_ (n:=y.ps.length) ⟨0,y.ps,rfl,ab,aM.refl _ _,f8,by rw[e2];exact .refl w.W gi,rfl,fun i q s a b=>⟨fun h=>ab,fun _=>by rw[a] at b;cases b;rfl⟩⟩;rintro m e' h'⟨j,o,rfl,hj,K,q8,T,zJ,Hq⟩;have w':=w.aw T ae;have J:=T.g.ok;have g0:=w'.g;have q1:=K.at (t:=1) f1;have q2:=K.at (t:=2) f2;have q5:=K.at (t:=5) f5;have q6:=K.at (t:=6) f6;have q7:=K.at (t:=7) f7;obtain⟨sF,nz⟩:=w'.hF;obtain⟨sH,O⟩:=w'.hH;have QP:(ys.set i {y with ps:=o})[i]?=some {y with ps:=o} :=by rw[fL,bM rfl,bM hi]
 have Y:=w'.W.at QP;have gY:y.P.l=y.ps.length:=by have:y.P.l=o.length:=Y.P.len;rw[this,zJ]
 obtain⟨bB,cB,oB,sB,fp,Gg,hjB,_,cZ,_⟩:=w'.W.A.el QP;have rd:=cZ 0 1 ag;simp[-ax] at rd;simp[aC] at nz O;rw[fp,dT] at O;rw[gY] at rd;unfold jl;by_cases bk:j<y.ps.length
 .have wj:=cg ((j:Int)+1) ab ab;obtain⟨q,hq⟩:=aV y.ps j bk;obtain⟨s,Fe⟩:=aV o j;have eq:=(Hq j q s hq Fe).2 (fh _);subst eq;have hgp:y.g.bD[j]?=some s.1:=by simp[YB.g,hq]
  have nC:=w.E.rows i y.g hg s.1 (cN hgp);have x5:=Aa bs i;obtain⟨bG,offG,cG,anb,_,_,⟨P0,L0,T0,rfl,sP0,sL0,sT0⟩,oG,ajj⟩:=aD.later w.dt w.hB hg;have Ec:=ajj h' g0 0 1 ag;simp[-ax] at Ec;obtain⟨bQ,offQ,cQ,aum,_,_,⟨A0,rfl,sA0⟩,oQ,hrdQ⟩:=aD.later w.dt sP0 hgp;have rdQ:=hrdQ h' g0 0 2 ag;simp[-ax] at rdQ;have anw:=aD.len sP0;have hgl:y.g.bD.length=y.ps.length:=by simp[YB.g]
  rw[hgl] at anw;rw[aum,anw] at Ec;rw[anb,TP] at nz;obtain⟨bP,cP,oP,sP,kB,DN,hjP,dQ,Ul,fu⟩:=Y.P.el Fe;have v8:y.P.a=some ⟨bP,0,none⟩:=kB;rw[v8] at rd;have oF:=J.cn nz;have oH:=J.cn O;have YK:=J.cn DN;have oB':=J.cn Gg;have oG':=g0.cn oG;have oQ':=g0.cn oQ;have G9:i<ys.length:=hi;have dJ:=w.len;simp[q1,q2,q5,q6,q7,q8,nz,O,aF nz,aF O,bk,G9,gh,rd,Ec,rdQ,oF,oH,YK,oB',oG',oQ',aQ,aC,-ax];have D:=bC J;have hFt:=D.get J nz;have hHt:=D.get J O;have hBt:=D.get J Gg;have hPt:=D.get J DN;have nt:(tick h').aw=h'.aw:=rfl;generalize tick h'=N at*;have Hi:=g0.trans D;have lh:(pQ bs i s.1.row).length<1000000:=by unfold pQ;rw[List.length_zip];omega
  refine cu.call (V:=fun v h'=>ay aZ N h'/\∃L:SV,v=L.v/\bu iS N.aw h' L.v (pQ bs i s.1.row)) (by simpa [aC,anb,TP] using Ih D.ok (name:=name) (p:=p) (r:=r) (dst:=s.1.dst) (w.hB.mono w.dt Hi) (sA0.mono w.dt Hi fun _ _ h=>h) ab (fun x hx=>av (w.E.two hx)) i ab) ?_;rintro _ h3⟨g3,L,rfl,fM⟩;simp;refine Uy (E:=L) (t:=t) (b:=b) g3.ok (dI fM) lh (au q1) (au q5) ae ae ?_;intro e4 h4 K4 g4 A4;have k2:=K4.at (t:=2) (ak q2);have k6:=K4.at (t:=6) (ak q6);have k7:=K4.at (t:=7) (ak q7);have k8:bH e4 8=.int .i64 j:=K4.at (ak q8);have k9:bH e4 9=L.v:=K4.at ae;have lL:∀c,eR L=some c->h'.aw<=c:=fun c e=>av (fM.of (iE (dI fM) e))
  have d:ay aZ N h4:=g3.trans' g4 ai (fun c hc e=>av (lL c e));have BH:=d.get D.ok hFt;have XQ:=d.get D.ok hHt;have hB4:=d.get D.ok hBt;have hP4:=d.get D.ok hPt;have W4:=(w'.W.ck J D).ck D.ok d;have Y4:=W4.at QP;obtain⟨bB4,cB4,oB4,sB4,x3,KO,_,_,ajl,_⟩:=W4.A.el QP;rw[fp] at x3;cases x3;have Q:=ajl 0 1 ag;simp[-ax] at Q;rw[v8,gY] at Q;have oH4:=d.ok.cn XQ;have oF4:=d.ok.cn BH;have aw6:=d.ok.cn KO;have stH:=d.ok.st _ _ _ _ _ XQ;have stB:=d.ok.st _ _ _ _ _ KO;have av_:(pQ bs i s.1.row |>.map (ie t b)).length<1000000:=aj lh
  simp[k2,k6,k7,k8,k9,BH,XQ,aF BH,aF XQ,G9,Q,oF4,oH4,aw6,aQ,-ax];have I:=bC d.ok;have hH5:=I.get d.ok XQ;have hB5:=I.get d.ok KO;have hP5:=I.get d.ok hP4;have A5:=A4.grow d.ok I ai;have n4:(tick h4).aw=h4.aw:=rfl;have c4:(tick h4).clock=h4.clock+1:=rfl;generalize tick h4=h5 at*;refine cu.call (V:=fun v h'=>ay aZ h5 h'/\∃L':SV,v=L'.v/\bu cC h5.aw h' L'.v (iC ((pQ bs i s.1.row).map (ie t b)) bs.length)) (by simpa [TP] using MR I.ok A5.sl av_ bs.length ab) ?_;rintro _ h6⟨W,A',rfl,uX⟩;have hH6:=W.get I.ok hH5;have hB6:=W.get I.ok hB5;have hP6:=W.get I.ok hP5;have wa:=dQ 1 1 ag;simp at wa;have W6:=(W4.ck d.ok I).ck I.ok W;obtain⟨bB6,cB6,oB6,sB6,abD,air,_,_,aoB,_⟩:=W6.A.el QP;rw[fp] at abD;cases abD;have Z:=aoB 0 1 ag;simp[-ax] at Z;rw[v8,gY] at Z;simp[hH6,stH,stB,hB6,G9,bk,hP6,wa,k8,wj,Z,aF hH6,-ax];have g7:=aY (off:=j*2+1) (vs:=[A'.v]) W.ok hP6;simp at g7;have XT:=fu (sD bs t b i s.1,A') 1 [A'.v] ae (by simp[bg,sD]) (put h6 bP (j*2+1) cP [A'.v] oP) ⟨h6.clock,ae⟩;simp at XT;have Ge:ay aZ h' h6:=((D.trans d).trans I).trans W;have l5:=((D.trans d).trans I).aw;have T7:=T.row (j:=j) w.hn QP Fe (p':=(sD bs t b i s.1,A')) (Ge.ck.trans (g7.cY fun c _ e=>.inl ⟨.P,.inl rfl,by rw[e];exact cy kB⟩)) XT ((dI uX).go W.ok g7 fun c hc e=>by have:=uX.of (iE (dI uX) e);have:=J.wf _ _ DN;omega) (fun c e=>.inr (av (uX.of (iE (dI uX) e))))
  rw[xF] at T7;refine⟨y.ps.length-(j+1),ab,j+1,o.set j (sD bs t b i s.1,A'),rfl,bk,?_,ae,aj T7,au zJ,fun k a c h1 N=>?_⟩
  .repeat (refine aM.set ?_)
   refine aM.trans ?_ (K4.cY)
   exact aq
  rw[fL] at N;by_cases e:j=k;subst e;rw[bM rfl,bM ab] at N;cases N;rw[hq] at h1;cases h1;exact⟨fun _=>rfl,fun h=>ab⟩;rw[bU e] at N;obtain⟨a1,a2⟩:=Hq k a c h1 N;exact⟨fun h=>a1 ab,fun h=>a2 ab⟩
 .have:j=y.ps.length:=ab
  subst this;simp[q6,q7,q8,O,aF O,hi,rd,-ax];refine C _ _ o ?_ T (Cy fun k=>?_)
  .exact aq
  rw[js,js];simp only[YB.g,js];rcases Gf k y.ps.length with hk|hk;obtain⟨q,hq⟩:=aV y.ps k hk;obtain⟨s,Fe⟩:=aV o k (by rw[zJ];exact hk);rw[hq,Fe];simp only[Cx];rw[(Hq k q s hq Fe).1 hk];rw[wY hk,wY (by rw[zJ];exact hk)];rfl
def qI(bs:List GB)(t b:Int)(i:Nat)(x:GB):GB:= {x with bD:=x.bD.map (sD bs t b i)}
def asb(h1:az)(n0:Nat)(B:SV)(bs:List GB)(ys:List YB)(t b:Int)(e:Env)(m:Nat)(e':Env)(h':az):Prop:=
 ∃(i:Nat) (zs:List YB),m=ys.length-i/\i<=ys.length/\aM ([7,8,9,10]++(List.range 67).map (· +24)) e e'/\bJ e' 7 i/\cM h1 h' n0 B ys B zs/\zs.length=ys.length/\∀(k:Nat)(y z:YB),ys[k]?=some y->zs[k]?=some z->(k<i->z.g=qI bs t b k y.g)/\(i<=k->z=y)
def Yr(w:JN h0 h1 n0 F H name p r B0 B bs ys)(mp:ys.map YB.g=bs){t b:Int}(f1:bJ e 1 b)(f2:cm e 2 F)(f5:bJ e 5 t)(f6:cm e 6 H)(f7:bJ e 7 0)(C:∀O h' zs,aM ([7,8,9,10]++(List.range 67).map (· +24)) e O->cM h1 h' n0 B ys B zs->zs.map YB.g=bs.mapIdx (qI bs t b)->QQ (.exit 0) O h'):aO FF (.loop jm) e h1 QQ:=by
 have qW:=w.E.n50;have dT:=w.W.A.len;have dJ:=w.len;refine aO.loop (asb h1 n0 B bs ys t b e) ?_ (n:=ys.length) ⟨0,ys,rfl,ab,aM.refl _ _,f7,.refl w.W w.g.ok,rfl,fun i q q' a b=>⟨fun h=>ab,fun _=>by rw[a] at b;cases b;rfl⟩⟩;rintro m O h'⟨i,zs,rfl,hi,K,D,T,Z,J⟩;have V:=w.aw T Z;obtain⟨sH,d⟩:=V.hH;have q1:=K.at (t:=1) f1;have q2:=K.at (t:=2) f2;have q5:=K.at (t:=5) f5;have N:=K.at (t:=6) f6;simp[aC] at d;rw[dT] at d;unfold jm;by_cases Q:i<ys.length
 .have wi:=cg ((i:Int)+1) ab ab;obtain⟨y,j⟩:=aV ys i Q;obtain⟨z,s⟩:=aV zs i;have ez:=(J i y z j s).2 (fh _);subst ez;have hg:bs[i]?=some z.g:=by rw[<-mp,js,j];rfl
  simp[N,D,d,aF d,Q,-ax];refine Yq V (t:=t) (b:=b) s hg (au q1) (au q2) (au q5) (au N) (au D) ae ?_;intro e3 h3 W Y T3 M3;have k7:bH e3 7=.int .i64 i:=Y.at (ak D);simp[k7,wi];refine⟨ys.length-(i+1),ab,i+1,zs.set i {z with ps:=W},rfl,Q,?_,ae,T.trans T3,au Z,fun k a c h1 o=>?_⟩
  .repeat (refine aM.set ?_)
   refine aM.trans ?_ (Y.cY)
   exact aq
  rw[fL] at o;by_cases e:i=k;subst e;rw[bM rfl,bM ab] at o;cases o;rw[j] at h1;cases h1;exact⟨fun _=>by simp only[YB.g,qI,M3],fun h=>ab⟩;rw[bU e] at o;obtain⟨a1,a2⟩:=J k a c h1 o;exact⟨fun h=>a1 ab,fun h=>a2 ab⟩
 .have:i=ys.length:=ab
  subst this;simp[N,D,d,aF d,-ax];refine C _ _ zs ?_ T (Cy fun k=>?_)
  .exact aq
  rw[js,List.getElem?_mapIdx,<-mp,js];rcases Gf k ys.length with I|I;obtain⟨y,j⟩:=aV ys k I;obtain⟨z,s⟩:=aV zs k;rw[j,s];simp only[Cx];rw[(J k y z j s).1 I,mp];rw[wY I,wY ab];rfl
end
structure VZ(h:az)(B:SV)(ys:List YB):Prop where
 A:eo dZ h B ys
 r:∀y∈ys,BZ h y
 no:∀y∈ys,∀l c,y.loc l=some c->eR B≠some c
def FZ.vz{h:az}(w:FZ h n0 B ys):VZ h B ys:=⟨w.A,w.r,fun y j l c e m=>by obtain⟨i,d⟩:=iI j;have:=w.tf none (some (i,l)) c m (by rw[cz d];exact e);cases this⟩
def VZ.view{h:az}{B:SV}{ys:List YB}(w:VZ h B ys):qg h B (ys.map YB.g):=w.A.view ae fun i r b a c=>by simp[a] at c;subst c;exact(w.r r (cN a)).view
def VZ.ck{h h':az}{B:SV}{ys:List YB}(w:VZ h B ys)(c:cr h)(g:ay aZ h h'):VZ h' B ys:=⟨w.A.ck c g,fun y d=>(w.r y d).ck c g,w.no⟩
def VZ.set{h h':az}{B:SV}{ys:List YB}{i:Nat}{y:YB}(w:VZ h B ys)(j:cr h)(g:ay (fun c=>eR B=some c) h h')(A:eo dZ h' B (ys.set i y))(z:BZ h y)(no:∀l c,y.loc l=some c->eR B≠some c):VZ h' B (ys.set i y):=by have go:∀ {x:YB},BZ h x->(∀l c,x.loc l=some c->eR B≠some c)->BZ h' x:=fun d n=>d.go j g fun c l m e=>n l c e m;refine⟨A,fun x d=>?_,fun x d=>?_⟩<;>rcases List.mem_or_eq_of_mem_set d with d|rfl;exact go (w.r x d) (w.no x d);exact go z no;exact w.no x d;exact no
def jv(n t:Nat):List Nat:=(List.range n).filter fun i=> !decide (i=t)
def UI(n t:Nat):jv (n+1) t=jv n t++(if n=t then [] else [n]):=by unfold jv;rw[List.range_succ,List.filter_append];by_cases e:n=t<;>simp[e]
def JnL(h1:az)(H t n:Nat)(e:Env)(m:Nat)(e':Env)(h':az):Prop:=
 ∃(j:Nat) (L:SV),m=n-j/\j<=n/\aM ([11,12]++(List.range 14).map (· +115)) e e'/\bH e' 11=L.v/\bJ e' 12 j/\ay aZ h1 h'/\bu encI h1.aw h' L.v (nI (jv j t))
def Yp(gi:cr h1){H t n:Nat}{p r:Int}{sH:Nat}(hH:fC h1 H (aC name p r B) sH)(dT:B.l=n)(hn:n<1000000)(f5:bJ e 5 t)(f6:cm e 6 H)(Q:bH e 11=cK.v)(O:bJ e 12 0)(C:∀w h' (L:SV),aM ([11,12]++(List.range 14).map (· +115)) e w->bH w 11=L.v->ay aZ h1 h'->bu encI h1.aw h' L.v (nI (jv n t))->QQ (.exit 6) w h'):aO FF (.loop jj) e h1 QQ:=by
 refine aO.loop (JnL h1 H t n e) ?_ (n:=n) ⟨0,cK,rfl,ab,aM.refl _ _,Q,O,.refl gi,.inl ⟨rfl,rfl⟩⟩;rintro m w h'⟨j,L,rfl,hj,K,N,s,g,d⟩;have bS:=g.ok;have Z:=K.at (t:=5) f5;have J:=K.at (t:=6) f6;have o:=g.get gi hH;simp[aC] at o;rw[dT] at o;unfold jj;by_cases D:j<n
 .have Y:=cg ((j:Int)+1) ab ab;have q:=UI j t;by_cases V:j=t
  .rw[bM V,Bc] at q;subst V;simp[Z,J,s,o,aF o,D,Y,-ax];refine⟨n-(j+1),ab,j+1,L,rfl,D,?_,au N,ae,g,by rw[q];exact d⟩
   exact aq
  .rw[bU V] at q;have b1:((j:Int) !=t)=true:=by simp;omega
   have Ki:(nI (jv j t)).length<=j:=by unfold nI jv;rw[KM];exact sx (EW _ _) ae
   have Pg:¬(j:Int)=t:=ab
   simp[Z,J,N,s,o,aF o,D,b1,-ax];have I:=aN bS [.int .i64 j] 0;have gK:=d.grow bS I ai;have zK:bj encI (aK h' [.int .i64 j] 0) (.slice (some ⟨h'.aw,0,none⟩) 1 1) [(j:Int)]:=dz (E:=encI) (x:=(j:Int)) (bz _ _ _);have n2:(aK h' [.int .i64 j] 0).aw=h'.aw+1:=rfl;have gn:=g.aw;obtain⟨v',h3,ha,W,g3,_⟩:=fx (bytes:=8) I.ok (z:=[.int .i64 0]) rfl gK zK ab ag ab;obtain⟨L',rfl⟩:=bu.C5 W;refine cR (aj ha) ?_;simp[s,Y];refine⟨n-(j+1),ab,j+1,L',rfl,D,?_,ae,ae,(g.trans I).trans' g3 ai (fun c hc e=>av (d.of e)),by rw[q];simpa [nI] using W⟩
   exact aq
 .have:j=n:=ab
  subst this;simp[J,s,o,aF o,-ax];refine C _ _ L ?_ (au N) g d
  exact aq
def iv(bs:List GB)(b t:Nat)(T:GB):List GB:=bs.mapIdx fun i x=>
 if i=t then {qI bs t b i x with kind:=1,on:=(false,0),to:=[]} else if i=b then⟨(qI bs t b i x).bD,x.list++T.list,T.kind,T.on,T.to⟩ else qI bs t b i x
def OM{h0 h:az}(dt:cr h0)(g0:ay aZ h0 h){name:ByteArray}{p r:Int}{B0:SV}{b t:Nat}(hB:qg h0 B0 bs)(E:EB bs)(Z:∀b∈bs,GQ b)(c:dm bs b t X T)(EJ:EB (iv bs b t T))(ZJ:∀x∈iv bs b t T,GQ x)(Ki:X.list.length+T.list.length<1000000):bc FF 42 [.agg ⟨aC name p r B0⟩,.int .i64 b] h (mQ name p r (bh (iv bs b t T) (jv bs.length t)) h):=by
 have ok:=g0.ok;have LY:=E.n50;have TP:=aD.len hB;have n1:¬h.aw=h.aw+1:=ab
 have CD:=(di.mp c.ht).1;have qW:=(di.mp c.hb).1;obtain⟨bB,YO,cB,fp,_,_,⟨P0,L0,T0,rfl,sP0,sL0,sT0⟩,oB,cZ⟩:=aD.later dt hB c.hb;have u5:T0.l=1:=by have:=aD.len sT0;rw[c.to] at this;simpa using this
 obtain⟨bT,ajW,cT,Bh,_,_,rT,oT,Of⟩:=aD.later dt sT0 (i:=0) (x:=(t:Int)) (by rw[c.to];rfl);cases rT;refine bc.of zu ?_;unfold qD;have g1:ay aZ h (aK (aK h [.string name,.int .i64 p,.int .i64 r,.slice B0.a B0.l B0.c] 0) [.string ⟨⟨[]⟩⟩,.int .i64 0,.int .i64 0,.slice none 0 0] 0):=((ay.refl ok).new _ _).new _ _;have hF:(aK (aK h [.string name,.int .i64 p,.int .i64 r,.slice B0.a B0.l B0.c] 0) [.string ⟨⟨[]⟩⟩,.int .i64 0,.int .i64 0,.slice none 0 0] 0).tr.get h.aw=some (.bZ (aC name p r B0) false 0 0):=by simp[aC,n1]
 have hR:(aK (aK h [.string name,.int .i64 p,.int .i64 r,.slice B0.a B0.l B0.c] 0) [.string ⟨⟨[]⟩⟩,.int .i64 0,.int .i64 0,.slice none 0 0] 0).tr.get (h.aw+1)=some (.bZ [.string ⟨⟨[]⟩⟩,.int .i64 0,.int .i64 0,.slice none 0 0] false 0 0):=ae
 simp[aC,n1];generalize aK (aK h _ 0) _ 0=h1 at*;have yP:=g0.trans g1;have rd:=cZ h1 yP 5 1 ag;have rdT:=Of h1 yP 0 1 ag;simp[-ax] at rd rdT;rw[Bh,u5] at rd;have yD:=hF;simp[aC] at yD;rw[fp,TP] at yD;simp[fp,TP,yD,aF yD,qW,rd,rdT,-ax];refine bm.call (V:=mQ name p r bs h1) (by simpa [aC,fp,TP] using vK dt yP (name:=name) (p:=p) (r:=r) hB Z ab) ?_;rintro _ h2⟨g2,B,ys,rfl,W2,xi,M2⟩;have yU:ys.length=bs.length:=by have:=congrArg List.length M2;simpa using this
 have jz:=g2.get g1.ok hF;have w_:=g2.get g1.ok hR;simp[aC];refine aO.cut (fun h3=>ay aZ h2 h3/\h3.aw=h2.aw+1/\dg h3 h2.aw (aC name p r B)) ?_ ?_
 exact⟨(ay.refl g2.ok).var _ _,ae,h2.clock,by simp[bg,aC]⟩;rintro h3⟨g3,n3,sH,hH⟩;have lF:=g1.ok.wf _ _ hF;have lR:=g1.ok.wf _ _ hR;have l0:=g0.aw;have l1:=g1.aw;have l2:=g2.aw;have uT:=g3.get g2.ok jz;have Ew:=g3.get g2.ok w_;have W3:=W2.ck g2.ok g3;have low:∀x,x<h1.aw->¬cx B ys x:=fun x m ⟨l,e⟩=>av (W2.new l x e)
 have oH:¬cx B ys h2.aw:=fun⟨l,e⟩=>av (W2.lt g2.ok e)
 have J:JN h0 h3 h1.aw h.aw h2.aw name p r B0 B bs ys:=⟨dt,(yP.trans g2).trans g3,hB,E,ab,ab,W3,yU,⟨_,uT⟩,⟨sH,hH⟩,low _ lF,oH⟩;refine Yr J M2 (t:=t) (b:=b) ae ae ae ae ae ?_;intro e4 h4 zs K4 T4 M4;have k1:bH e4 1=.int .i64 b:=K4.at ae;have k4:cm e4 4 (h.aw+1):=K4.at ae;have k5:bH e4 5=.int .i64 t:=K4.at ae;have k6:cm e4 6 h2.aw:=K4.at ae;have J4:=J.aw T4 (by have:=congrArg List.length M4;simp at this;omega);have wK:=J4.len;obtain⟨sH4,XQ⟩:=J4.hH;have KP:=T4.g.get g3.ok Ew (low _ lR);obtain⟨rb,Ff⟩:=aV zs b;obtain⟨d,Un⟩:=aV zs t;have grb:rb.g=qI bs t b b X:=by have:=congrArg (fun l=>l[b]?) M4;simpa [Ff,c.hb] using this
 have grt:d.g=qI bs t b t T:=by have:=congrArg (fun l=>l[t]?) M4;simpa [Un,c.ht] using this
 have S5:=T4.g.ok;have W4:=J4.W;have dT:=W4.A.len;have Yb:=W4.at Ff;have Yt:=W4.at Un;obtain⟨N,cs,o4,s4,I,KO,_,dQ,av7,fu⟩:=W4.A.el Ff;obtain⟨_,_,_,_,abC,aiq,_,_,av8,_⟩:=W4.A.el Un;rw[I] at abC;cases abC;have rdb:=av7 1 1 ag;have rdt:=av8 1 1 ag;simp[-ax] at rdb rdt;simp[aC] at XQ;rw[I,dT,wK] at XQ;have oH4:=S5.cn XQ;have oB4:=S5.cn KO;simp[k1,k4,k5,k6,XQ,aF XQ,qW,CD,rdb,rdt,oH4,oB4,aQ,-ax];have nbt:=c.ne;have ne1:N≠h2.aw:=fun e=>J4.oH ⟨none,by rw[<-e];exact cy I⟩;have Q:=bC S5;have hHt:=Q.get S5 XQ;have hBt:=Q.get S5 KO;have stH:=S5.st _ _ _ _ _ XQ;have W5:=W4.ck S5 Q;have Yb5:=W5.at Ff;have Yt5:=W5.at Un;have nt:(tick h4).aw=h4.aw:=rfl;have ct:(tick h4).clock=h4.clock+1:=rfl;have yb:rb.ls.length=X.list.length:=by have:=congrArg (fun x=>x.list.length) grb;simpa [YB.g,qI] using this
 have htl2:d.ls.length=T.list.length:=by have:=congrArg (fun x=>x.list.length) grt;simpa [YB.g,qI] using this
 generalize tick h4=h5 at*;obtain⟨L',h6,ha,Pj,g6,Ub,_⟩:=BW (bytes:=80) (z:=[.int .i64 0,.int .i64 0,.bool false,.int .i64 0,.bool false,.int .i64 0,.int .i64 0,.slice none 0 0]) Q.ok rfl Yb5.L Yt5.L.sl ab ag;refine mn (aj ha) ?_;have nLB:∀x,bt rb.L.v x->x≠N:=fun x m e=>by have:=W5.tf none (some (b,.L)) x (by rw[e];exact cy I) (by rw[cz Ff];exact dq m);cases this
 have nLH:∀x,bt rb.L.v x->x≠h2.aw:=fun x m e=>J4.oH ⟨some (b,.L),by rw[cz Ff,<-e];exact dq m⟩;have hH6:=g6.get Q.ok hHt (fun e=>nLH _ e rfl);have hB6:=g6.get Q.ok hBt (fun e=>nLB _ e rfl);have wa:=dQ 1 1 ag;simp at wa;simp[hH6,stH,qW,hB6,wa];have g7:=aY (off:=b*6+1) (vs:=[L'.v]) g6.ok hB6;have A7:=fu (nk rb d L') 1 [L'.v] ae (by simp[bg,nk]) (put h6 N (b*6+1) cs [L'.v] o4) ⟨h6.clock,ae⟩;have W:ay (fun x=>eR rb.L=some x\/x=N) h5 (put h6 N (b*6+1) cs [L'.v] o4):=(g6.cY fun x _ m=>.inl (dq m)).trans (g7.cY fun x _ e=>.inr e);have hL7:=Pj.go g6.ok g7 (fun x m e=>by have l5:=Q.ok.wf _ _ hBt;rcases Ub x (iE Pj e) with h|h;exact nLB x h m;omega)
 have FJ:=W5.join Q.ok Ff Un W (fun x m o ho=>by rcases m with m|m;exact .inr (W5.own (l:=.L) Ff m ho (fun h=>h));have:=W5.tf none o x (by rw[m];exact cy I) ho;exact .inl this.symm) A7 hL7 (fun x e=>(Ub x (iE Pj e)).imp (fun h=>dq h) fun h=>ab) (av J4.hn)
 have V7:=FJ.1.vz;have O:=g7.get g6.ok hH6 (Ne.symm ne1);simp only[SV.yJ] at g7 V7 O W;have c7:(put h6 N (b*6+1) cs [.slice L'.a L'.l L'.c] o4).clock=h6.clock+1:=rfl;rw[<-c7];have Ex:=g6.get Q.ok (Q.get S5 KP) (fun e=>(T4.s _ ⟨some (b,.L),by rw[cz Ff];exact dq e⟩).elim (low _ lR) ab);have hR7:=g7.get g6.ok Ex (fun e=>(T4.s _ ⟨none,by rw[e];exact cy I⟩).elim (low _ lR) ab);generalize put h6 N (b*6+1) cs _ o4=h7 at*;have w:=W.ok;obtain⟨y5,hy5⟩:∃y5,y5=nk rb d L':=⟨_,rfl⟩;rw[<-hy5] at V7;have ajq:(zs.set b y5)[t]?=some d:=by rw[fL,bU (Ne.symm nbt)];exact Un
 have aji:(zs.set b y5)[b]?=some y5:=by rw[fL,bM rfl,bM ab]
 obtain⟨_,cs7,o7,s7,anc,at3,_,_,av4,_⟩:=V7.A.el ajq;rw[I] at anc;cases anc;obtain⟨_,cs8,o8,s8,ane,ang,_,abY,_,acm⟩:=V7.A.el aji;rw[I] at ane;cases ane;have rd7:=av4 2 4 ag;simp[-ax] at rd7;have oH7:=w.cn O;have oB7:=w.cn at3;have stH7:=w.st _ _ _ _ _ O;have hf8:=abY 2 4 ag;simp at hf8;simp[k1,k5,k6,O,aF O,qW,CD,rd7,oH7,oB7,ang,hf8,aQ,-ax];have q:=bC w;have at4:=q.get w ang;have Vt7:=V7.ck w q;have aue:=q.get w O;have auC:=q.get w hR7;generalize tick h7=h8 at*;obtain⟨y6,hy6⟩:∃y6:YB,y6= {y5 with kind:=d.kind,on:=d.on,T:=d.T,to:=d.to} :=⟨_,rfl⟩;have A9:=acm y6 2 [.int .i64 d.kind,.bool d.on.1,.int .i64 d.on.2,d.T.v] ae (by simp[bg,hy6]) (put h8 N (b*6+2) cs8 [.int .i64 d.kind,.bool d.on.1,.int .i64 d.on.2,d.T.v] o8) ⟨h8.clock,ae⟩;have Y:=aY (off:=b*6+2) (vs:=[.int .i64 d.kind,.bool d.on.1,.int .i64 d.on.2,d.T.v]) q.ok at4;simp only[SV.yJ] at A9 Y;have hH9:=Y.get q.ok aue (Ne.symm ne1);have nRb:h.aw+1≠N:=fun e=>(T4.s _ ⟨none,by rw[e];exact cy I⟩).elim (low _ lR) ab;have hR9:=Y.get q.ok auC nRb;have Z5:=Vt7.r y5 (cN aji);have Zt:=Vt7.r d (cN ajq);have N5:=Vt7.no y5 (cN aji);have Nt:=Vt7.no d (cN ajq);have V9:=Vt7.set q.ok (Y.cY fun x _ e=>by rw[e];exact cy I) A9 (by rw[hy6];exact⟨Z5.P,Z5.L,Zt.T,Z5.ps,Z5.ls⟩) (by
  rw[hy6];intro l x e;cases l with
  |T=>exact Nt .T x e
  |P=>exact N5 .P x e
  |L=>exact N5 .L x e
  |R j=>exact N5 (.R j) x e
  |X j=>exact N5 (.X j) x e)
 rw[xF] at V9;generalize put h8 N (b*6+2) cs8 _ o8=h9 at*;have ais:B.l=bs.length:=by rw[dT,wK]
 have lb4:=V9.A.lt Y.ok (cy I);refine Yp (n:=bs.length) (t:=t) (B:=B) (name:=name) (p:=p) (r:=r) Y.ok (by simpa [aC,I,ais] using hH9) ais ab (au k5) (au k6) (by simp[cK]) ae ?_;intro e10 LX L10 K10 Jz s agC;have m4:cm e10 4 (h.aw+1):=K10.at (ak k4);have m5:bH e10 5=.int .i64 t:=K10.at (ak k5);have m6:cm e10 6 h2.aw:=K10.at (ak k6);have V10:=V9.ck Y.ok s;have auc:=s.get Y.ok hH9;have auv:=s.get Y.ok hR9;have aci:(zs.set b y6)[t]?=some d:=by rw[fL,bU (Ne.symm nbt)];exact Un
 obtain⟨_,amC,o11,s11,agO,agP,_,aiZ,_,ajr⟩:=V10.A.el aci;rw[I] at agO;cases agO;have an_:=aiZ 2 4 ag;simp at an_;simp[m4,m5,m6,Jz,auc,CD,agP,an_,nRb,ne1,Ne.symm ne1];obtain⟨y8,hy8⟩:∃y8:YB,y8= {d with kind:=1,on:=(false,0),T:=cK,to:=[]} :=⟨_,rfl⟩;have A12:=ajr y8 2 [.int .i64 1,.bool false,.int .i64 0,cK.v] ae (by simp[bg,hy8]) (put LX N (t*6+2) amC [.int .i64 1,.bool false,.int .i64 0,.slice none 0 0] o11) ⟨LX.clock,by simp[cK]⟩;have D:=aY (off:=t*6+2) (vs:=[.int .i64 1,.bool false,.int .i64 0,.slice none 0 0]) s.ok agP;have aiD:=D.get s.ok auv nRb;have aeO:=V10.r d (cN aci);have aeJ:=V10.no d (cN aci);have V12:=V10.set s.ok (D.cY fun x _ e=>by rw[e];exact cy I) A12 (by rw[hy8];exact⟨aeO.P,aeO.L,⟨rfl,.inl ⟨rfl,rfl,rfl⟩⟩,aeO.ps,aeO.ls⟩) (by
  rw[hy8];intro l x e;cases l with
  |T=>cases e
  |P=>exact aeJ .P x e
  |L=>exact aeJ .L x e
  |R j=>exact aeJ (.R j) x e
  |X j=>exact aeJ (.X j) x e)
 have amr:=agC.sl.grow s.ok D (fun x m e=>av (agC.of m));generalize put LX N (t*6+2) amC _ o11=h12 at*;have MJ:((zs.set b y6).set t y8).map YB.g=iv bs b t T:=Cy fun k=>by
  rw[js,fL,fL,List.length_set,iv,List.getElem?_mapIdx];have Mk:(zs[k]?).map YB.g=(bs[k]?).map (qI bs t b k):=by have:=congrArg (fun l=>l[k]?) M4;simpa [List.getElem?_mapIdx] using this
  by_cases e1:t=k
  .subst e1;rw[bM rfl,bM ab,c.ht];simp only[Cx,if_true];have e2:y8.g= {d.g with kind:=1,on:=(false,0),to:=[]} :=by rw[hy8];rfl
   rw[e2,grt]
  .rw[bU e1];by_cases e2:b=k
   .subst e2;rw[bM rfl,bM ab,c.hb];simp only[Cx];rw[bU (Ne.symm e1),bM trivial];have e3:y6.g=⟨rb.g.bD,rb.g.list++d.g.list,d.g.kind,d.g.on,d.g.to⟩:=by rw[hy6,hy5];simp[YB.g,nk]
    rw[e3,grb,grt];rfl
   .rw[bU e2,Mk];cases bs[k]? with
    |none=>rfl
    |some x=>simp only[Cx];rw[bU (Ne.symm e1),bU (Ne.symm e2)]
 have view:=V12.view;rw[MJ] at view;have ol:(jv bs.length t).length<100000:=by unfold jv;exact Nat.lt_of_le_of_lt (EW _ _) (by simp;omega)
 refine bm.call (V:=mQ name p r (bh (iv bs b t T) (jv bs.length t)) h12) (by simpa [aC,I,ais] using CM D.ok (.refl D.ok) (name:=name) (p:=p) (r:=r) view EJ ZJ amr ol (fun k hk=>by unfold jv at hk;have:=N4.1 (Ai.1 hk).1;simpa [iv] using this)) ?_;rintro _ h13⟨g13,B13,y13,rfl,W13,x13,M13⟩;have afm:=g13.get D.ok aiD;simp[aC,m4,afm];have own:∀x,cx B ys x\/h3.aw<=x->h1.aw<=x:=fun x m=>m.elim (fun⟨l,e⟩=>W2.new l x e) ab;have lB:h1.aw<=N:=own N (T4.s _ ⟨none,cy I⟩);have gA:ay aZ h h4:=((g1.trans g2).trans g3).trans' T4.g ai (fun x m e=>av (own x (.inl e)));have gB:ay aZ h h7:=(gA.trans Q).trans' W ai (fun x m e=>by rcases e with e|e;have:=own x (T4.s _ ⟨some (b,.L),by rw[cz Ff];exact e⟩);omega;omega)
 have gC:ay aZ h h9:=(gB.trans q).trans' Y ai (fun x m e=>ab);have gD:ay aZ h h12:=(gC.trans s).trans' D ai (fun x m e=>ab);have g14:=aY (off:=0) (vs:=[.string name,.int .i64 p,.int .i64 r,B13.v]) g13.ok afm;simp at g14;have l12:=gD.aw;exact⟨(gD.trans g13).trans' g14 ai (fun x m e=>ab),B13,y13,by simp[aC],(W13.go g13.ok g14 fun x l e hl=>by have:=W13.new l x hl;have:=D.aw;have:=s.aw;have:=Y.aw;have:=q.aw;have:=W.aw;have:=T4.g.aw;omega).cY ab,x13,M13⟩
def Ib:∀ {pk:List Int} {k:Nat} {x:Int},pk.Nodup->pk[k]?=some x->pk.take k++pk.drop (k+1)=pk.filter (fun a=>a !=x)
 |[],_,_,_,h=>by simp at h
 |y::pk,0,x,nd,h=>by
  obtain⟨h1,_⟩:=List.nodup_cons.1 nd;have e:y=x:=aj h
  subst e;rw[List.filter_cons_of_neg ae];simp;exact(List.filter_eq_self.2 fun a c=>by simp;exact fun e=>h1 (e▸c)).symm
 |y::pk,k+1,x,nd,h=>by
  obtain⟨h1,d⟩:=List.nodup_cons.1 nd;have h':pk[k]?=some x:=aj h
  have j:y≠x:=fun e=>h1 (e▸cN h');rw[List.filter_cons_of_pos (aj j),<-Ib d h'];simp
def JT:∀ {l:List (Int×(Bool×Int))} (n:Int),l.Pairwise (fun a b=>a.1<b.1)->l.filter (fun x=>decide (x.1<n))=l.take (l.filter fun x=>decide (x.1<n)).length/\l.filter (fun x=> !decide (x.1<n))=l.drop (l.filter fun x=>decide (x.1<n)).length
 |[],_,_=>⟨rfl,rfl⟩
 |x::l,n,h=>by
  obtain⟨h1,d⟩:=List.pairwise_cons.1 h;by_cases e:x.1<n;obtain⟨a,b⟩:=JT n d;rw[List.filter_cons_of_pos (aj e),List.filter_cons_of_neg (aj e)];exact⟨by rw[List.length_cons,List.take_succ_cons,<-a],by rw[List.length_cons,List.drop_succ_cons,<-b]⟩
  .have no:l.filter (fun x=>decide (x.1<n))=[]:=by rw[List.filter_eq_nil_iff];intro y c;have:=h1 y c;simp;omega
   rw[List.filter_cons_of_neg (aj e),List.filter_cons_of_pos (aj e),no];exact⟨rfl,congrArg (x:: ·) (List.filter_eq_self.2 fun y c=>by have:=h1 y c;simp;omega)⟩
def Zy(j:row.length=pk.length)(s:pk.Pairwise (· < ·))(h0:∀a∈pk,0<=a/\a<n):iC (pk.zip row) n=row:=by
 have mem:∀x∈pk.zip row,x.1∈pk:=fun x c=>(List.of_mem_zip (a:=x.1) (b:=x.2) c).1;have d:(pk.zip row).Pairwise (fun a b=>a.1<b.1):=by have e:(pk.zip row).map (·.1)=pk:=List.map_fst_zip ab;rw[<-e] at s;exact List.pairwise_map.1 s
 rw[yu (.refl _) d (fun x c=>(h0 _ (mem x c)).1) n,List.filter_eq_self.2 (fun x c=>by have:=h0 _ (mem x c);simpa using this.2)];exact List.map_snd_zip ab
def acU{cn now:Int}(hl:row.length=pk.length)(s:pk.Pairwise (· < ·))(h0:∀a∈pk,0<=a/\a<n)(ho:cn∈pk)(hn:now∉pk)(h1:0<=now/\now<n):iC ((pk.zip row).map (ie cn now)) n=La pk cn now row:=by
 have nd:pk.Nodup:=s.imp fun h=>ab
 obtain⟨k,hk,CA,hk3⟩:=Jv ho;have mem:∀x∈pk.zip row,x.1∈pk:=fun x c=>(List.of_mem_zip (a:=x.1) (b:=x.2) c).1;have J:(pk.zip row).map (·.1)=pk:=List.map_fst_zip ab;have V:(pk.zip row).map (·.2)=row:=List.map_snd_zip ab;have O:(pk.zip row).Pairwise (fun a b=>a.1<b.1):=by rw[<-J] at s;exact List.pairwise_map.1 s
 obtain⟨v,hv⟩:=aV row k;obtain⟨Z,w⟩:∃Z,Z=pk.zip row:=⟨_,rfl⟩;rw[<-w] at mem J V O⊢;have j:Z[k]?=some (cn,v):=by rw[w,List.getElem?_zip_eq_some];exact⟨CA,hv⟩
 have hZl:Z.length=pk.length:=by rw[w,List.length_zip];omega
 obtain⟨D,d⟩:∃D,D=Z.take k++Z.drop (k+1):=⟨_,rfl⟩;have N:D.map (·.1)=pk.filter (fun a=>a !=cn):=by rw[d,List.map_append,List.map_take,List.map_drop,J];exact Ib nd CA
 have D2:D.map (·.2)=pf row k:=by rw[d,List.map_append,List.map_take,List.map_drop,V];rfl
 have Dm:∀x∈D,x∈Z:=fun x c=>by rw[d] at c;exact(jS.1 c).elim XK List.mem_of_mem_drop
 have Y:∀x∈D,x.1≠cn:=fun x c=>by have:x.1∈D.map (·.1):=EX c;rw[N] at this;simpa using(Ai.1 this).2
 have I:D.Pairwise (fun a b=>a.1<b.1):=by
  rw[d];exact O.sublist (by
   have:Z=Z.take k++Z.drop k:=(List.take_append_drop k Z).symm
   conv=>rhs;rw[this]
   refine List.Sublist.append (List.Sublist.refl _) ?_;rw[List.drop_eq_getElem_cons (by omega:k<Z.length)];exact List.sublist_cons_self _ _)
 have Zs:Z=Z.take k++(cn,v)::Z.drop (k+1):=by
  conv=>lhs;rw[<-List.take_append_drop k Z,List.drop_eq_getElem_cons (by omega:k<Z.length)]
  have:Z[k]'ab=(cn,v):=by rw[g_ ab] at j;simpa using j
  rw[this]
 have same:∀ {l:List (Int×(Bool×Int))},(∀x∈l,x.1≠cn)->l.map (ie cn now)=l:=fun {l} h=>by
  conv=>rhs;rw[<-List.map_id l]
  exact List.map_congr_left fun x c=>by unfold ie;rw[bU (h x c)];rfl
 have Q:(Z.map (ie cn now)).Perm ((now,v)::D):=by
  rw[Zs,List.map_append,xX,same (fun x c=>Y x (by rw[d];exact List.mem_append_left _ c)),same (fun x c=>Y x (by rw[d];exact List.mem_append_right _ c))];have:ie cn now (cn,v)=(now,v):=by unfold ie;rw[bM rfl]
  rw[this,d];exact List.perm_middle
 obtain⟨c1,c2⟩:=JT now I;obtain⟨xs,q⟩:∃xs,xs=D.filter (fun x=>decide (x.1<now))++(now,v)::D.filter (fun x=> !decide (x.1<now)):=⟨_,rfl⟩;have P:xs.Perm (Z.map (ie cn now)):=by refine List.Perm.trans ?_ Q.symm;rw[q];refine List.perm_middle.trans (List.Perm.cons _ ?_);exact List.filter_append_perm _ _
 have S:xs.Pairwise (fun a b=>a.1<b.1):=by
  rw[q,List.pairwise_append];refine⟨I.filter _,List.pairwise_cons.2 ⟨fun x c=>?_,I.filter _⟩,fun a ha b o=>?_⟩;have m:=(Ai.1 c).2;have h3:x.1≠now:=fun e=>hn (e▸mem x (Dm x (Ai.1 c).1));simp at m;show now<x.1;omega
  have m:=(Ai.1 ha).2;simp at m;rcases List.mem_cons.1 o with rfl|o;exact m;have h3:=(Ai.1 o).2;simp at h3;omega
 have W:∀x∈Z.map (ie cn now),0<=x.1/\x.1<n:=fun x c=>by rcases List.mem_cons.1 (Q.subset c) with rfl|c;exact h1;exact h0 _ (mem x (Dm x c))
 rw[yu P S (fun x c=>(W x c).1) n,List.filter_eq_self.2 (fun x c=>by have:=W x (P.subset c);simpa using this.2)];have lb:(D.filter fun x=>decide (x.1<now)).length=(pk.filter fun a=>decide (a<now)&&a !=cn).length:=by
  have:((D.map (·.1)).filter fun a=>decide (a<now)).length=(D.filter fun x=>decide (x.1<now)).length:=by rw[List.filter_map,KM];rfl
  rw[<-this,N,List.filter_filter]
 rw[q,c1,c2,lb];unfold La wo;rw[hk,gW_,hv,<-D2];simp
def qv(bs:List GB)(b:Int):(aX bs b).Pairwise (· < ·):=by unfold aX iZ;exact List.pairwise_map.2 ((List.pairwise_lt_range.filter _).imp fun h=>ab)
def z8{b a:Int}(h:a∈aX bs b):0<=a/\a<bs.length:=by obtain⟨i,rfl,x,c,_⟩:=cO.1 h;have:=(di.mp c).1;omega
section
variable{bs:List GB}{b t:Nat}{X T:GB}
def dm.qI(c:dm bs b t X T)(E:EB bs){i:Nat}{x:GB}(s:bs[i]?=some x)(h:i≠t):Go.Proofs.YtdhnndleffachaaGreatDoor.qI bs t b i x=if(i:Int)∈T.to then Bm (aX bs i) t b x else x:=by
 have w:=(di.mp c.hb).1;have key:∀p∈x.bD,sD bs t b i p=if(i:Int)∈T.to then⟨p.dst,La (aX bs i) t b p.row⟩ else p:=fun p m=>by
  have j:=E.rows i x s p m;unfold sD pQ;by_cases e:(i:Int)∈T.to;rw[bM e,acU j (qv bs i) (fun a d=>z8 d) (c.O9.2 e) (c.not h) ab]
  .rw[bU e];have:((aX bs i).zip p.row).map (ie t b)=(aX bs i).zip p.row:=by
    conv=>rhs;rw[<-List.map_id ((aX bs i).zip p.row)]
    refine List.map_congr_left fun y o=>?_;unfold ie;rw[bU (fun q=>e (c.O9.1 (by rw[<-q];exact(List.of_mem_zip (a:=y.1) (b:=y.2) o).1)))];rfl
   rw[this,Zy j (qv bs i) (fun a d=>z8 d)]
 unfold Go.Proofs.YtdhnndleffachaaGreatDoor.qI;rw[List.map_congr_left key];by_cases e:(i:Int)∈T.to;simp only[bM e];rfl;simp only[bU e];rw[show x.bD.map (fun p=>p)=x.bD from List.map_id _]
def Fk(c:dm bs b t X T)(E:EB bs)(h:i≠t):(iv bs b t T)[i]?=(stepG bs b t X T)[i]? :=by
 unfold iv stepG;rw[List.getElem?_mapIdx,List.getElem?_mapIdx];cases d:bs[i]? with
 |none=>rfl
 |some x=>
  simp only[Cx];unfold dG;rw[bU h,bU h,c.qI E d h];by_cases e:i=b;subst e;rw[c.hb] at d;cases d;rw[bM rfl];try rw[bM rfl]
  rw[bU e,bU e]
def QX(c:dm bs b t X T):(iv bs b t T)[t]?=some ⟨[],T.list,1,(false,0),[]⟩:=by unfold iv;rw[List.getElem?_mapIdx,c.ht];simp only[Cx,if_true];unfold Go.Proofs.YtdhnndleffachaaGreatDoor.qI;rw[c.ph];rfl
def IS:(iv bs b t T).length=bs.length:=by simp[iv]
def EB.same{LD:List GB}(E:EB bs)(d:LD.length=bs.length)(H:∀(i:Nat)(x x':GB),bs[i]?=some x->LD[i]?=some x'->x'.bD=x.bD/\x'.kind=x.kind/\x'.to=x.to):EB LD:=by
 have mem:∀x'∈LD,∃x∈bs,x'.bD=x.bD/\x'.kind=x.kind/\x'.to=x.to:=fun x' c=>by obtain⟨i,s⟩:=iI c;obtain⟨x,c⟩:=aV bs i (by rw[<-d];exact(di.mp s).1);exact⟨x,cN c,H i x x' c s⟩
 refine⟨by rw[d];exact E.n1,by rw[d];exact E.n50,fun x' c=>?_,fun x' c=>?_,fun i x' c p o=>?_,fun x' c=>?_⟩;obtain⟨x,j,_,w,m⟩:=mem x' c;rw[w,m];exact E.kind x j;obtain⟨x,j,_,_,m⟩:=mem x' c;rw[m,d];exact E.to x j;obtain⟨x,q⟩:=aV bs i (by rw[<-d];exact(di.mp c).1);rw[(H i x x' q c).1] at o;rw[mT d fun i x x' a b=>(H i x x' a b).2.2];exact E.rows i x q p o;obtain⟨x,j,e,_⟩:=mem x' c;rw[e];exact E.pl x j
def MU(c:dm bs b t X T)(E:EB bs)(i:Nat)(x x':GB)(h1:(stepG bs b t X T)[i]?=some x)(d:(iv bs b t T)[i]?=some x'):x'.bD=x.bD/\x'.kind=x.kind/\x'.to=x.to:=by by_cases e:i=t;subst e;rw[QX c] at d;rw[gz c.ht] at h1;cases h1;cases d;unfold dG;rw[bM rfl];exact⟨rfl,rfl,rfl⟩;rw[Fk c E e,h1] at d;cases d;exact⟨rfl,rfl,rfl⟩
def dm.ebJ(c:dm bs b t X T)(E:EB bs):EB (iv bs b t T):=(c.eb E).same (by rw[IS,gO]) (MU c E)
def dm.ah0(c:dm bs b t X T)(E:EB bs)(k:Int):aX (iv bs b t T) k=aX (stepG bs b t X T) k:=mT (by rw[IS,gO]) (fun i x j a d=>(MU c E i x j a d).2.2) k
def xk :k∈jv n t↔k<n/\k≠t:=by unfold jv;rw[Ai,N4];simp
def Yy(n t:Nat):Ord n (jv n t):=⟨List.nodup_range.filter _,fun x c=>(xk.1 c).1⟩
def UJ(d:1<=n)(c:1<=t):(jv n t)[0]?=some 0:=by obtain⟨m,rfl⟩:∃m,n=m+1:=⟨n-1,ab⟩;unfold jv;rw[List.range_succ_eq_map,List.filter_cons_of_pos (by simp;omega)];rfl
def dm.left(c:dm bs b t X T)(E:EB bs):kU (stepG bs b t X T) (jv bs.length t):=by
 refine⟨by rw[gO];exact Yy _ _,UJ E.n1 (av (E.to X (cN c.hb) t (by rw[c.to];simp))),fun k x s q u d=>?_⟩;have o:=(xk.1 s).2;have I:=c.eb E;have m:=I.to x (cN q) u d;rw[gO] at m;refine xk.2 ⟨ab,fun e=>?_⟩;obtain⟨y,D,rfl⟩:=fH q;rw[dD,bU o] at d;have w:u=(t:Int):=ab
 subst w;split at d;exact c.self d;rename_i j;exact j (c.ZP D d)
def dm.kept(c:dm bs b t X T)(E:EB bs):bh (iv bs b t T) (jv bs.length t)=bh (stepG bs b t X T) (jv bs.length t):=by unfold bh;refine List.map_congr_left fun k d=>?_;rw[c.ah0 E,Fk c E (xk.1 d).2]
end
def JU:∀ {l m:List Int},l.Pairwise (· < ·)->m.Pairwise (· < ·)->(∀a,a∈l↔a∈m)->l=m
 |[],[],_,_,_=>rfl
 |[],y::m,_,_,h=>by have:=(h y).2 (h_ ..);simp at this
 |x::l,[],_,_,h=>by have:=(h x).1 (h_ ..);simp at this
 |x::l,y::m,h1,s,h=>by
  obtain⟨o,q⟩:=List.pairwise_cons.1 h1;obtain⟨j,b2⟩:=List.pairwise_cons.1 s;have e:x=y:=by rcases List.mem_cons.1 ((h x).1 (h_ ..)) with e|e;exact e;rcases List.mem_cons.1 ((h y).2 (h_ ..)) with d|d;exact d.symm;have:=j x e;have:=o y d;omega
  subst e;rw[JU q b2 fun a=>?_];constructor;intro c;rcases List.mem_cons.1 ((h a).1 (uQ _ c)) with e|e;have:=o a c;omega;exact e
  intro c;rcases List.mem_cons.1 ((h a).2 (uQ _ c)) with e|e;have:=j a c;omega;exact e
def agd{d m:List (Bool×Int)}(nd:pk.Nodup)(h1:d.length=pk.length)(I:m.length=pk.length)(h:∀e∈pk.zip d,e∈pk.zip m):d=m:=by
 refine Cy fun j=>?_;by_cases w:j<pk.length
 .obtain⟨a,o⟩:=aV pk j w;obtain⟨v,q⟩:=aV d j;have s:=h (a,v) (cN (i:=j) (by rw[List.getElem?_zip_eq_some];exact⟨o,q⟩));obtain⟨k,c⟩:=iI s;rw[List.getElem?_zip_eq_some] at c;have:k=j:=by have D:=(di.mp c.1).1;exact(List.getElem?_inj D nd).1 (c.1.trans o.symm)
  subst this;rw[q,c.2]
 rw[wY ab,wY ab]
def Uk(l:List (Int×(Bool×Int))):Prop:=∀a v w,(a,v)∈l->(a,w)∈l->v=w
def pS(u:Uk l) :eS l a=some v↔(a,v)∈l:=by
 unfold eS;constructor
 .intro h;obtain⟨x,j,rfl⟩:=Option.map_eq_some_iff.1 h;have h1:=List.mem_of_find?_eq_some j;have c:=List.find?_some j;have:x.1=a:=aj c
  rw[<-this];exact h1
 .intro h;cases d:l.find? fun x=>x.1==a with
  |none=>have:=List.find?_eq_none.1 d _ h;simp at this
  |some x=>
   have h1:=List.mem_of_find?_eq_some d;have c:=List.find?_some d;have:x.1=a:=aj c
   rw[Cx,u a x.2 v (by rw[<-this];exact h1) h]
def M9{ah:List Int}(s:ah.Pairwise (· < ·))(u:Uk l)(q:∀a,a∈ah↔ ∃v,(a,v)∈l)(m:∀x∈l,0<=x.1/\x.1<n):(∀e,e∈ah.zip (iC l n)↔e∈l)/\(iC l n).length=ah.length:=by
 have w:ah=(Fl l n).map fun x:Nat=>(x:Int):=by
  refine JU s (List.pairwise_map.2 ((List.pairwise_lt_range.filter _).imp fun h=>ab)) fun a=>?_;rw[q,jo];constructor;rintro⟨v,c⟩;have:=m _ c;exact⟨a.toNat,pU.2 ⟨by simp at this;omega,v,(pS u).2 (by rw[show((a.toNat:Nat):Int)=a by simp at this;omega];exact c)⟩,by simp at this;omega⟩
  rintro⟨k,d,rfl⟩;obtain⟨_,v,c⟩:=pU.1 d;exact⟨v,(pS u).1 c⟩
 rw[JK,w];refine⟨fun e=>?_,ae⟩;rw[List.zip_map',jo];constructor
 .rintro⟨k,d,rfl⟩;obtain⟨_,v,c⟩:=pU.1 d;have:WY l k=v:=by unfold WY;rw[c];rfl
  rw[this];exact(pS u).1 c
 .intro j;have D:=m e j;refine⟨e.1.toNat,pU.2 ⟨ab,e.2,(pS u).2 (by rw[show((e.1.toNat:Nat):Int)=e.1 by omega];exact j)⟩,?_⟩;have o:((e.1.toNat:Nat):Int)=e.1:=ab
  have:eS l ((e.1.toNat:Nat):Int)=some e.2:=(pS u).2 (by rw[o];exact j);unfold WY;rw[this];exact Prod.ext o rfl
def akG(nd:pk.Nodup):Uk (pk.zip row):=fun a v w h1 m=>by obtain⟨i,c⟩:=iI h1;obtain⟨j,d⟩:=iI m;rw[List.getElem?_zip_eq_some] at c d;have o:=(di.mp c.1).1;have:i=j:=(List.getElem?_inj o nd).1 (c.1.trans d.1.symm);subst this;have:=c.2.symm.trans d.2;cases this;rfl
section
variable{bs LD:List GB}{b t:Nat}{X T:GB}
def N6(E:EB bs)(V:EB LD)(W:LD.length=bs.length)(H:∀(i:Nat)(x x':GB),bs[i]?=some x->LD[i]?=some x'->(x'.list=x.list/\x'.kind=x.kind/\x'.on=x.on/\x'.to=x.to)/\x'.bD.length=x.bD.length/\∀(j:Nat)(p p':GP),x.bD[j]?=some p->x'.bD[j]?=some p'->p'.dst=p.dst/\∀e∈(aX bs i).zip p.row,e∈(aX LD i).zip p'.row):LD=bs:=by
 refine Cy fun i=>?_;rcases Gf i bs.length with s|s
 .obtain⟨x,w⟩:=aV bs i s;obtain⟨x',o⟩:=aV LD i;obtain⟨⟨h1,I,O,J⟩,h5,Q⟩:=H i x x' w o;have Z:aX LD i=aX bs i:=mT W (fun k y y' a d=>(H k y y' a d).1.2.2.2) i;rw[w,o];have c:x'.bD=x.bD:=Cy fun j=>by
   rcases Gf j x.bD.length with m|m;obtain⟨p,c⟩:=aV x.bD j m;obtain⟨p',q⟩:=aV x'.bD j;obtain⟨d,D⟩:=Q j p p' c q;rw[c,q];have Y:=E.rows i x w p (cN c);have N:=V.rows i x' o p' (cN q);rw[Z] at N D;have:=agd (mU bs i) Y N D;cases p;cases p';simp at d this;rw[d,this]
   rw[wY m,wY ab]
  cases x;cases x';simp at h1 I O J c;rw[h1,I,O,J,c]
 rw[wY s,wY ab]
def dm.bD(c:dm bs b t X T)(E:EB bs){i:Nat}{x:GB}(d:bs[i]?=some x)(h:i≠t):(dG bs b t X T i x).bD=x.bD.map (sD bs t b i):=by rw[ky h,<-c.qI E d h];rfl
def ako{t b:Int}(u:Uk l)(nb:∀v,(b,v)∉l):Uk (l.map (ie t b)):=fun a v w h1 o=>by obtain⟨x,m,c⟩:=jo.1 h1;obtain⟨y,j,d⟩:=jo.1 o;unfold ie at c d;split at c<;>split at d;cases c;cases d;exact u t _ _ (by rename_i h _;rw[<-h];exact m) (by rename_i h;rw[<-h];exact j);cases c;exact absurd j (by rw[d];exact nb w);cases d;exact absurd m (by rw[c];exact nb v);rw[c] at m;rw[d] at j;exact u a v w m j
def dm.iV(c:dm bs b t X T)(E:EB bs)(w:bs[i]?=some x)(h:i≠t){p:GP}(s:p∈x.bD)(e:Int×(Bool×Int)):e∈(aX (stepG bs b t X T) i).zip (sD bs t b i p).row↔ ∃f∈(aX bs i).zip p.row,e=ie t b f:=by
 have q:=E.rows i x w p s;have nb:∀v,((b:Int),v)∉(aX bs i).zip p.row:=fun v m=>c.not h (List.of_mem_zip m).1;have key:=M9 (l:=((aX bs i).zip p.row).map (ie t b)) (n:=bs.length) (qv (stepG bs b t X T) i) (ako (akG (mU bs i)) nb) (fun a=>?_) (fun y o=>?_)
 rw[show(sD bs t b i p).row=iC (((aX bs i).zip p.row).map (ie t b)) bs.length from rfl,key.1,jo];exact⟨fun⟨f,a,d⟩=>⟨f,a,d.symm⟩,fun⟨f,a,d⟩=>⟨f,a,d.symm⟩⟩
 .rw[c.mem h];constructor;rintro(⟨rfl,j⟩|⟨D,j⟩);obtain⟨v,m⟩:=Pe q (c.O9.2 j);exact⟨v,jo.2 ⟨_,m,by unfold ie;rw[bM rfl]⟩⟩;obtain⟨v,m⟩:=Pe q j;exact⟨v,jo.2 ⟨_,m,by unfold ie;rw[bU D]⟩⟩
  .rintro⟨v,m⟩;obtain⟨y,o,e⟩:=jo.1 m;have j:=(List.of_mem_zip (a:=y.1) (b:=y.2) o).1;unfold ie at e;split at e
   rename_i h1;cases e;exact .inl ⟨rfl,c.O9.1 (h1▸j)⟩;rename_i h1;rw[e] at h1 j;exact .inr ⟨h1,j⟩
 .obtain⟨z,I,rfl⟩:=jo.1 o;have j:=z8 (List.of_mem_zip (a:=z.1) (b:=z.2) I).1;have J:=(di.mp c.hb).1;unfold ie;split
  exact⟨by show(0:Int)<=b;omega,by show(b:Int)<bs.length;omega⟩;exact j
end
def eZ(bs:List GB)(b t:Nat)(B T:GB)(i:Nat)(X:GB):(dG bs b t B T i X).list=if i=t then [] else if i=b then B.list++T.list else X.list:=by unfold dG;split;rfl;split;rfl;split<;>rfl
def gV(bs:List GB)(b t:Nat)(B T:GB)(i:Nat)(X:GB):(dG bs b t B T i X).on=if i=t then(false,0) else if i=b then T.on else X.on:=by unfold dG;split;rfl;split;rfl;split<;>rfl
def tm{b t:Nat}{B T:GB}(h:i=t):dG bs b t B T i X=rh:=by unfold dG;rw[bM h]
def AB{b t:Nat}{B T:GB}(h:X.bD=[]):(dG bs b t B T i X).bD=[]:=by by_cases e:i=t;unfold dG;rw[bM e];rfl;rw[ky e];split;unfold Bm;rw[h];rfl;exact h
section
variable{bs:List GB}{b t b2 t2:Nat}{X T X2 T2:GB}
def kL(b t b2:Nat):Nat:=if b2=t then b else b2
def dm.tne(d:dm bs b t X T)(c:dm bs b2 t2 X2 T2)(j:b2≠b):t2≠t:=fun e=>j (d.ZP c.hb (by rw[c.to,e];simp))
def dm.second(d:dm bs b t X T)(c:dm bs b2 t2 X2 T2)(j:b2≠b)(nc:¬(b2=t/\t2=b)):∃Y,bs[kL b t b2]?=some Y/\dm (stepG bs b t X T) (kL b t b2) t2 (dG bs b t X T (kL b t b2) Y) (dG bs b t X T t2 T2):=by
 have o:=d.tne c j;unfold kL;by_cases e:b2=t
 .rw[bM e];have m:X2=T:=by have:=c.hb;rw[e,d.ht] at this;cases this;rfl
  refine⟨X,d.hb,gz d.hb,gz c.ht,?_,?_,fun h=>nc ⟨e,h⟩,AB c.ph,?_⟩;rw[dL,bU (Ne.symm d.ne),bM rfl,<-m];exact c.k2;rw[dD,bU (Ne.symm d.ne),bM rfl,<-m];exact c.to;rw[d.aeS o];exact c.one
 rw[bU e];refine⟨X2,c.hb,gz c.hb,gz c.ht,?_,?_,c.ne,AB c.ph,?_⟩;rw[dL,bU e,bU j];exact c.k2;rw[dD,bU e,bU j];exact c.to;rw[d.aeS o];exact c.one
def Zj(I:b2≠b)(D:t2≠t)(w:t≠b)(s:t2≠b2)(nc:¬(b2=t/\t2=b))(f:Int×(Bool×Int)):ie t2 (kL b t b2) (ie t b f)=ie t (kL b2 t2 b) (ie t2 b2 f):=by
 obtain⟨a,v⟩:=f;unfold kL;by_cases j:a=t
 .subst j;have h1:¬((t:Int)=(t2:Int)):=ab
  by_cases c:b=t2;have d:¬b2=t:=fun e=>nc ⟨e,c.symm⟩;simp[ie,h1,c,d]
  .have m:¬((b:Int)=(t2:Int)):=ab
   simp[ie,h1,c,m]
 .by_cases c:a=t2
  .subst c;by_cases d:b2=t;have q:¬b=t2:=fun e=>nc ⟨d,e.symm⟩;simp[ie,j,d,q]
   .have o:¬((b2:Int)=(t:Int)):=ab
    simp[ie,j,d,o]
  simp[ie,j,c]
def dm.swap(m:dm bs b t X T)(o:dm bs b2 t2 X2 T2)(E:EB bs)(O:b2≠b)(nc:¬(b2=t/\t2=b)):∃A1 A2 B1 B2,dm (stepG bs b t X T) (kL b t b2) t2 A1 A2/\dm (stepG bs b2 t2 X2 T2) (kL b2 t2 b) t B1 B2/\stepG (stepG bs b t X T) (kL b t b2) t2 A1 A2=stepG (stepG bs b2 t2 X2 T2) (kL b2 t2 b) t B1 B2:=by
 have I:=m.tne o O;have nc':¬(b=t2/\t=b2):=fun h=>nc ⟨h.2.symm,h.1.symm⟩;obtain⟨Y,hY,d1⟩:=m.second o O nc;obtain⟨Z,hZ,W⟩:=o.second m (Ne.symm O) nc';refine⟨_,_,_,_,d1,W,?_⟩;have E1:=m.eb E;have E2:=o.eb E;refine N6 (W.eb E2) (d1.eb E1) (by simp only[gO]) fun i y2 y1 h2 h1=>?_;obtain⟨z2,g2,rfl⟩:=fH h2;obtain⟨z1,g1,rfl⟩:=fH h1;obtain⟨x,s,rfl⟩:=fH g2;obtain⟨x',kG,rfl⟩:=fH g1;rw[s] at kG;cases kG;have s1:kL b t b2≠t:=by unfold kL;split;exact Ne.symm m.ne;assumption
 have s2:kL b2 t2 b≠t2:=by unfold kL;split;exact Ne.symm o.ne;assumption
 refine⟨?_,?_⟩
 .have q1:i=b->x=X:=fun e=>by rw[e,m.hb] at s;cases s;rfl
  have q2:i=b2->x=X2:=fun e=>by rw[e,o.hb] at s;cases s;rfl
  have N:=m.ne;have n2:=o.ne;by_cases J:b2=t
  .have D:¬b=t2:=fun e=>nc ⟨J,e.symm⟩;have r1:kL b t b2=b:=by unfold kL;rw[bM J]
   have V:kL b2 t2 b=b:=by unfold kL;rw[bU D]
   have r3:X2=T:=by have:=o.hb;rw[J,m.ht] at this;cases this;rfl
   rw[r1,m.hb] at hY;rw[V,m.hb] at hZ;cases hY;cases hZ;rw[r1,V];clear d1 W g1 g2 h1 h2 E1 E2;subst J;subst r3;by_cases c:i=b2
   .have w:¬i=t2:=ab
    have Q:¬i=b:=ab
    simp[eZ,dL,gV,dD,c,w,Q,Ne.symm I,Ne.symm N,N,D]
   .by_cases d:i=t2
    .have Q:¬i=b:=ab
     simp[eZ,dL,gV,dD,c,d,Q,I,N,D,Ne.symm D]
    by_cases w:i=b;have:=q1 w;subst this;simp[eZ,dL,gV,dD,c,d,w,I,N,D,Ne.symm D,Ne.symm N,Ne.symm I,O];simp[eZ,dL,gV,dD,c,d,w]
  .have r1:kL b t b2=b2:=by unfold kL;rw[bU J]
   rw[r1,o.hb] at hY;cases hY;by_cases D:b=t2
   .have V:kL b2 t2 b=b2:=by unfold kL;rw[bM D]
    have r3:X=T2:=by have:=m.hb;rw[D,o.ht] at this;cases this;rfl
    rw[V,o.hb] at hZ;cases hZ;rw[r1,V];clear d1 W g1 g2 h1 h2 E1 E2;subst D;subst r3;by_cases c:i=t
    .have w:¬i=b:=ab
     have Q:¬i=b2:=ab
     simp[eZ,dL,gV,dD,c,Ne.symm I,Ne.symm J,N]
    by_cases d:i=b;simp[eZ,dL,gV,dD,d,I,N,Ne.symm O,n2];by_cases w:i=b2;have:=q2 w;subst this;simp[eZ,dL,gV,dD,w,J,I,N,O,Ne.symm O,Ne.symm J,Ne.symm I,n2];simp[eZ,dL,gV,dD,c,d,w]
   .have V:kL b2 t2 b=b:=by unfold kL;rw[bU D]
    rw[V,m.hb] at hZ;cases hZ;rw[r1,V];clear d1 W g1 g2 h1 h2 E1 E2;by_cases c:i=t;simp[eZ,dL,gV,dD,c,Ne.symm I,Ne.symm J,N]
    .by_cases d:i=t2;simp[eZ,dL,gV,dD,d,I,Ne.symm D,n2]
     .by_cases w:i=b;have:=q1 w;subst this;simp[eZ,dL,gV,dD,w,D,Ne.symm O,Ne.symm N,Ne.symm I,Ne.symm J,N]
      by_cases Q:i=b2;have:=q2 Q;subst this;simp[eZ,dL,gV,dD,Q,J,O,I,Ne.symm D,Ne.symm n2,n2];simp[eZ,dL,gV,dD,c,d,w,Q]
 .by_cases c:i=t
  .have p1:(dG (stepG bs b t X T) (kL b t b2) t2 (dG bs b t X T (kL b t b2) Y) (dG bs b t X T t2 T2) i (dG bs b t X T i x)).bD=[]:=AB (by rw[tm c];rfl);have p2:(dG (stepG bs b2 t2 X2 T2) (kL b2 t2 b) t (dG bs b2 t2 X2 T2 (kL b2 t2 b) Z) (dG bs b2 t2 X2 T2 t T) i (dG bs b2 t2 X2 T2 i x)).bD=[]:=by rw[tm c];rfl
   rw[p1,p2];exact⟨rfl,fun j p p' h=>by simp at h⟩
  .by_cases d:i=t2
   .have p2:(dG (stepG bs b2 t2 X2 T2) (kL b2 t2 b) t (dG bs b2 t2 X2 T2 (kL b2 t2 b) Z) (dG bs b2 t2 X2 T2 t T) i (dG bs b2 t2 X2 T2 i x)).bD=[]:=AB (by rw[tm d];rfl);have p1:(dG (stepG bs b t X T) (kL b t b2) t2 (dG bs b t X T (kL b t b2) Y) (dG bs b t X T t2 T2) i (dG bs b t X T i x)).bD=[]:=by rw[tm d];rfl
    rw[p1,p2];exact⟨rfl,fun j p p' h=>by simp at h⟩
   .rw[d1.bD E1 (gz s) d,m.bD E s c,W.bD E2 (gz s) c,o.bD E s d];refine⟨ae,fun j p p' hp x7=>?_⟩;rw[List.map_map,js] at hp x7;obtain⟨q,hq,rfl⟩:=Option.map_eq_some_iff.1 hp;rw[hq] at x7;cases x7;have Kj:=cN hq;refine⟨rfl,fun e he=>?_⟩;have m2:sD bs t2 b2 i q∈(dG bs b2 t2 X2 T2 i x).bD:=by rw[o.bD E s d];exact EX Kj
    have m1:sD bs t b i q∈(dG bs b t X T i x).bD:=by rw[m.bD E s c];exact EX Kj
    obtain⟨f,hf,rfl⟩:=(W.iV E2 (gz s) c m2 e).1 he;obtain⟨f0,Wl,rfl⟩:=(o.iV E s d Kj f).1 hf;refine(d1.iV E1 (gz s) d m1 _).2 ⟨ie t b f0,(m.iV E s c Kj _).2 ⟨f0,Wl,rfl⟩,?_⟩;exact(Zj O I m.ne o.ne nc f0).symm
end
def Rk(bs:List GB)(rk:Nat->Nat):Prop:=∀k:Nat,k≠0->aX bs k=[]\/∃u:Nat,(u:Int)∈aX bs k/\rk u<rk k
section
variable{bs:List GB}{rk:Nat->Nat}{b t b2 t2:Nat}{X T X2 T2:GB}
def dm.in1(c:dm bs b t X T):(b:Int)∈aX bs t:=cO.2 ⟨b,rfl,X,c.hb,by rw[c.to];simp⟩
def dm.only(c:dm bs b t X T){a:Nat}(h:(a:Int)∈aX bs t):a=b:=by
 obtain⟨j,e,Y,m,d⟩:=cO.1 h;have:j=a:=ab
 subst this;exact c.ZP m d
def dm.t1(c:dm bs b t X T)(E:EB bs):t≠0:=av (E.to X (cN c.hb) t (by rw[c.to];simp))
def Rk.lt(R:Rk bs rk)(E:EB bs)(c:dm bs b t X T):rk b<rk t:=by rcases R t (c.t1 E) with h|⟨u,d,j⟩;have:=c.in1;rw[h] at this;cases this;rw[<-c.only d];exact j
def Rk.nc(R:Rk bs rk)(E:EB bs)(j:dm bs b t X T)(c:dm bs b2 t2 X2 T2):¬(b2=t/\t2=b):=fun⟨h1,d⟩=>by have:=R.lt E j;have:=R.lt E c;rw[h1,d] at this;omega
def dm.dead(c:dm bs b t X T):aX (stepG bs b t X T) t=[]:=by refine List.eq_nil_iff_forall_not_mem.2 fun a h=>?_;obtain⟨j,e,Y,q,d⟩:=cO.1 h;obtain⟨Z,m,rfl⟩:=fH q;rw[dD] at d;split at d;cases d;split at d;exact c.self d;rename_i o;exact o (c.ZP m d)
def Rk.step(R:Rk bs rk)(E:EB bs)(c:dm bs b t X T):Rk (stepG bs b t X T) rk:=fun k o=>by
 by_cases e:k=t;rw[e];exact .inl c.dead
 .rcases R k o with h|⟨u,m,j⟩;refine .inl (List.eq_nil_iff_forall_not_mem.2 fun a q=>?_);rcases(c.mem e).1 q with⟨_,hm⟩|⟨_,hm⟩;have:=c.O9.2 hm;rw[h] at this;cases this;rw[h] at hm;cases hm
  .by_cases d:u=t;refine .inr ⟨b,(c.mem e).2 (.inl ⟨rfl,c.O9.1 (d▸m)⟩),?_⟩;have:=R.lt E c;rw[d] at j;omega
   exact .inr ⟨u,(c.mem e).2 (.inr ⟨ab,m⟩),j⟩
def Steps.head{a n:List GB}(s:Steps a n):a=n\/∃b t X T,dm a b t X T/\Steps (stepG a b t X T) n:=by
 induction s with
 |refl=>exact .inl rfl
 |step s c j=>
  rcases j with rfl|⟨b,t,X,T,d,m⟩;exact .inr ⟨_,_,_,_,c,.refl _⟩;exact .inr ⟨b,t,X,T,d,.step m c⟩
def Steps.one(c:dm bs b t X T):Steps bs (stepG bs b t X T):=.step (.refl _) c
def aht:∀(m:Nat)(bs:List GB),xT bs<=m->∃n,Steps bs n/\∀x,uV n x
 |m,bs,d=>by
  by_cases h:∃b t X T,dm bs b t X T
  .obtain⟨b,t,X,T,c⟩:=h;have j:=c.less
   match m with
   |0=>omega
   |m+1=>
    obtain⟨n,s,no⟩:=aht m (stepG bs b t X T) ab;exact⟨n,(Steps.one c).trans s,no⟩
  exact⟨bs,.refl _,fun x u Y U c=>h ⟨x,u,Y,U,c⟩⟩
def dm.same(d:dm bs b t X T)(c:dm bs b t2 X2 T2):t2=t/\X2=X/\T2=T:=by
 have h1:=c.hb;rw[d.hb] at h1;cases h1;have j:=c.to;rw[d.to] at j;have e:t2=t:=by simp at j;omega
 subst e;have m:=c.ht;rw[d.ht] at m;cases m;exact⟨rfl,rfl,rfl⟩
def ajO:∀(m:Nat)(bs:List GB),xT bs<=m->EB bs->Rk bs rk->∀o q,Steps bs o->Steps bs q->(∀x,uV o x)->(∀x,uV q x)->o=q:=by
 intro m;induction m with
 |zero=>
  intro bs Y E R o q s j h1 w;rcases s.head with rfl|⟨b,t,X,T,c,_⟩;rcases j.head with rfl|⟨b,t,X,T,d,_⟩;rfl;exact absurd d (h1 _ _ _ _);have:=c.less;omega
 |succ m D=>
  intro bs Y E R o q s j h1 w;rcases s.head with rfl|⟨b,t,X,T,c,s⟩;rcases j.head with rfl|⟨b,t,X,T,d,_⟩;rfl;exact absurd d (h1 _ _ _ _)
  .rcases j.head with rfl|⟨b2,t2,X2,T2,d,j⟩;exact absurd c (w _ _ _ _)
   .have l1:=c.less;have l2:=d.less;by_cases e:b2=b
    subst e;obtain⟨rfl,rfl,rfl⟩:=c.same d;exact D _ ab (c.eb E) (R.step E c) o q s j h1 w
    .obtain⟨Q,A2,B1,B2,V,O,eq⟩:=c.swap d E e (R.nc E c d);obtain⟨I,N,J⟩:=aht _ _ (fh (xT (stepG (stepG bs b t X T) (kL b t b2) t2 Q A2)));have Z:=D _ ab (c.eb E) (R.step E c) o I s ((Steps.one V).trans N) h1 J;have W:=D _ ab (d.eb E) (R.step E d) q I j ((Steps.one O).trans (by rw[<-eq];exact N)) w J;rw[Z,W]
end
section
variable{g:List GB}{A:List Nat}{b t b' t':Nat}{X T X' T':GB}
def kU.iV(C:kU g A)(E:EB g)(q:A[i]?=some k)(J:g[k]?=some x){p:GP}(o:p∈x.bD)(e:Int×(Bool×Int)):e∈(aX (bh g A) i).zip (mi (aR (nI A)) A.length (aX g k) p).row↔ ∃y∈(aX g k).zip p.row,0<=aR (nI A) y.1/\e=(aR (nI A) y.1,y.2):=by
 have D:=E.rows k x J p o;have u:Uk (fB (aR (nI A)) ((aX g k).zip p.row)):=fun a v w h1 d=>congrArg Prod.snd (Q3 (C.key k) _ h1 _ d rfl);have m:∀y∈fB (aR (nI A)) ((aX g k).zip p.row),0<=y.1/\y.1<A.length:=fun y I=>by obtain⟨z,N,h0,rfl⟩:=tq.1 I;obtain⟨j,e,_⟩:=cO.1 (List.of_mem_zip (a:=z.1) (b:=z.2) N).1;refine⟨h0,?_⟩;rcases C.o.place j with⟨i,_,d,O⟩|⟨_,d⟩;show aR (nI A) z.1<_;rw[e];omega;rw[e] at h0;omega
 have key:=M9 (n:=A.length) (qv (bh g A) i) u (fun a=>?_) m;rw[show(mi (aR (nI A)) A.length (aX g k) p).row=iC (fB (aR (nI A)) ((aX g k).zip p.row)) A.length from rfl,key.1,tq];rw[C.keys E q D,jo];constructor;rintro⟨j,s,rfl⟩;obtain⟨_,v,c⟩:=pU.1 s;exact⟨v,(pS u).1 c⟩;rintro⟨v,c⟩;have:=m _ c;simp at this;exact⟨a.toNat,pU.2 ⟨ab,v,(pS u).2 (by rw[show((a.toNat:Nat):Int)=a by omega];exact c)⟩,ab⟩
def Dd(g:List GB)(A:List Nat):Prop:=∀(k:Nat)(x:GB),g[k]?=some x->k∉A->x.to=[]
def kU.back(C:kU g A)(E:EB g)(D:Dd g A)(c:dm (bh g A) b' t' X' T'):∃b t X T,A[b']?=some b/\A[t']?=some t/\dm g b t X T/\X'=dY (aR (nI A)) A.length (aX g b) X/\T'=dY (aR (nI A)) A.length (aX g t) T:=by
 obtain⟨b,X,m,I,rfl⟩:=qi C.o c.hb;obtain⟨t,T,j,W,rfl⟩:=qi C.o c.ht;have h1:X.to.map (aR (nI A))=[(t':Int)]:=c.to;obtain⟨u,q⟩:∃u,X.to=[u]:=by
  match O:X.to with
  |[]=>rw[O] at h1;simp at h1
  |[u]=>exact⟨u,rfl⟩
  |u::v::l=>rw[O] at h1;simp at h1
 obtain⟨i,v,rfl,N,hp,_⟩:=C.tgt E (cN m) I (t:=u) (by rw[q];simp);rw[q] at h1;have:t'=i:=by simp at h1;omega
 subst this;rw[j] at N;cases N;refine⟨b,t,X,T,m,j,⟨I,W,c.k2,q,fun e=>c.ne ?_,?_,?_⟩,rfl,rfl⟩;subst e;exact(List.getElem?_inj (di.mp j).1 C.o.nd).1 (j.trans m.symm);have:T.bD.map _=[]:=c.ph;exact List.map_eq_nil_iff.1 this
 .have one:=c.one
  match d:aX g t with
  |[]=>simp
  |[x]=>simp
  |x::y::l=>
   exfalso;have nd:=mU g t;rw[d] at nd;have o:x≠y:=fun e=>(List.nodup_cons.1 nd).1 (by rw[e];simp);have pos:∀z∈aX g t,∃a w:Nat,z=(w:Int)/\A[a]?=some w/\(a:Int)∈aX (bh g A) t':=fun z J=>by
    obtain⟨w,rfl,Y,Z,Q⟩:=cO.1 J;have hw:w∈A:=Classical.byContradiction fun h=>by have:=D w Y Z h;rw[this] at Q;cases Q
    obtain⟨a,d⟩:=iI hw;exact⟨a,w,rfl,d,(C.ahead E j).2 ⟨w,d,J⟩⟩
   obtain⟨a1,w1,rfl,p1,m1⟩:=pos x (by rw[d];simp);obtain⟨a2,w2,rfl,s,V⟩:=pos y (by rw[d];simp);have:a1=a2:=by have e1:=c.only m1;have e2:=c.only V;omega
   subst this;rw[p1] at s;cases s;exact o rfl
def kU.fwd(C:kU g A)(E:EB g)(D:Dd g A)(c:dm g b t X T):∃b' t',dm (bh g A) b' t' (dY (aR (nI A)) A.length (aX g b) X) (dY (aR (nI A)) A.length (aX g t) T):=by
 have w:b∈A:=Classical.byContradiction fun h=>by have:=D b X c.hb h;rw[c.to] at this;cases this
 obtain⟨b',o⟩:=iI w;obtain⟨t',v,e,d,I,_⟩:=C.tgt E w c.hb (t:=(t:Int)) (by rw[c.to];simp);have:v=t:=ab
 subst this;refine⟨b',t',vE o c.hb,vE d c.ht,c.k2,by show X.to.map _=_;rw[c.to];simp[I],fun e=>?_,by show T.bD.map _=[];rw[c.ph];rfl,?_⟩;subst e;rw[o] at d;cases d;exact c.ne rfl
 .match m:aX (bh g A) t' with
  |[]=>simp
  |[x]=>simp
  |x::y::l=>
   exfalso;have nd:=mU (bh g A) t';rw[m] at nd;have j:x≠y:=fun e=>(List.nodup_cons.1 nd).1 (by rw[e];simp);have pos:∀z∈aX (bh g A) t',z=(b':Int):=fun z q=>by obtain⟨a,rfl,Y,O,N⟩:=cO.1 q;obtain⟨u,s,J⟩:=(C.ahead E d).1 q;have:=c.only J;subst this;have:=(List.getElem?_inj (di.mp s).1 C.o.nd).1 (s.trans o.symm);omega
   exact j ((pos x (by rw[m];simp)).trans (pos y (by rw[m];simp)).symm)
end
section
variable{g:List GB}{A:List Nat}{b t b' t':Nat}{X T X' T':GB}
def kU.cX(C:kU g A)(c:dm g b t X T):kU (stepG g b t X T) A:=by
 refine⟨by rw[gO];exact C.o,C.z,fun k y j o u d=>?_⟩;obtain⟨x,q,rfl⟩:=fH o;rw[dD] at d;split at d;cases d
 .split at d;rename_i e;subst e;have m:=C.cl k X j c.hb t (by rw[c.to];simp);simp at m;exact C.cl t T m c.ht u d
  exact C.cl k x j q u d
def Dd.step(D:Dd g A)(m:b∈A):Dd (stepG g b t X T) A:=fun k y j c=>by obtain⟨x,d,rfl⟩:=fH j;rw[dD];split;rfl;rw[bU (fun e:k=b=>c (by rw[e];exact m))];exact D k x d c
def Yv(C:kU g A)(E:EB g)(c:dm g b t X T)(hb:A[b']?=some b)(N:A[t']?=some t)(Q:dm (bh g A) b' t' (dY (aR (nI A)) A.length (aX g b) X) (dY (aR (nI A)) A.length (aX g t) T)):stepG (bh g A) b' t' (dY (aR (nI A)) A.length (aX g b) X) (dY (aR (nI A)) A.length (aX g t) T)=bh (stepG g b t X T) A:=by
 have C1:=C.cX c;have W:=C.eb E;have E1:=c.eb E;have kl:(bh g A).length=A.length:=by simp[bh]
 refine N6 (C1.eb E1) (Q.eb W) (by rw[gO,kl];simp[bh]) fun i y1 y2 h1 h2=>?_;obtain⟨k,z,s,hz,rfl⟩:=qi C1.o h1;obtain⟨x,m,rfl⟩:=fH hz;obtain⟨w,hw,rfl⟩:=fH h2;obtain⟨k2,x2,CA,Yf,rfl⟩:=qi C.o hw;rw[s] at CA;cases CA;rw[m] at Yf;cases Yf;have inj:∀ {j u:Nat},A[j]?=some u->(i=j↔k=u):=fun {j u} hj=>by constructor;intro e;subst e;rw[s] at hj;cases hj;rfl;intro e;subst e;exact(List.getElem?_inj (di.mp s).1 C.o.nd).1 (s.trans hj.symm)
 have O:=inj N;have ib:=inj hb;refine⟨?_,?_⟩
 .by_cases d:k=t;have o:=O.2 d;rw[tm d,tm o];exact⟨rfl,rfl,rfl,rfl⟩
  .have o:¬i=t':=fun h=>d (O.1 h);by_cases I:k=b
   .have e4:=ib.2 I;have:x=X:=by rw[I,c.hb] at m;cases m;rfl
    subst this;simp only[dY,eZ,dL,gV,dD,bU d,bU o,bM I,bM e4];exact⟨trivial,trivial,trivial,trivial⟩
   have e4:¬i=b':=fun h=>I (ib.1 h);simp only[dY,eZ,dL,gV,dD,bU d,bU o,bU I,bU e4];exact⟨trivial,trivial,trivial,trivial⟩
 .by_cases d:k=t;have o:=O.2 d;rw[tm d,tm o];exact⟨rfl,fun j p p' h=>by simp[dY,rh] at h⟩
  .have o:¬i=t':=fun h=>d (O.1 h);have w1:(bh g A)[i]?=some (dY (aR (nI A)) A.length (aX g k) x):=vE s m;rw[Q.bD W w1 o];have q1:(dY (aR (nI A)) A.length (aX (stepG g b t X T) k) (dG g b t X T k x)).bD=(x.bD.map (sD g t b k)).map (mi (aR (nI A)) A.length (aX (stepG g b t X T) k)):=by rw[<-c.bD E m d];rfl
   have q2:(dY (aR (nI A)) A.length (aX g k) x).bD=x.bD.map (mi (aR (nI A)) A.length (aX g k)):=rfl;rw[q1,q2];refine⟨ae,fun j p p' hp V=>?_⟩;rw[List.map_map,js] at hp V;obtain⟨q,hq,rfl⟩:=Option.map_eq_some_iff.1 hp;rw[hq] at V;cases V;have D:=cN hq;refine⟨rfl,fun e he=>?_⟩;have m1:sD g t b k q∈(dG g b t X T k x).bD:=by rw[c.bD E m d];exact EX D
   have m2:mi (aR (nI A)) A.length (aX g k) q∈(dY (aR (nI A)) A.length (aX g k) x).bD:=EX D;obtain⟨z,Y,h0,rfl⟩:=(C1.iV E1 s (gz m) m1 e).1 he;obtain⟨y,Z,rfl⟩:=(c.iV E m d D z).1 Y;refine(Q.iV W w1 o m2 _).2 ?_;by_cases J:y.1=t;refine⟨(aR (nI A) y.1,y.2),(C.iV E s m D _).2 ⟨y,Z,by rw[J,C.o.pos N];omega,rfl⟩,?_⟩;unfold ie;rw[bM J,bM (by show aR (nI A) y.1=_;rw[J,C.o.pos N])];show(aR (nI A) (b:Int),y.2)=_;rw[C.o.pos hb]
   .have er:ie (t:Int) b y=y:=by unfold ie;rw[bU J]
    rw[er] at h0⊢;refine⟨(aR (nI A) y.1,y.2),(C.iV E s m D _).2 ⟨y,Z,h0,rfl⟩,?_⟩;unfold ie;rw[bU (fun e=>?_)];obtain⟨u,eu,_⟩:=cO.1 (List.of_mem_zip (a:=y.1) (b:=y.2) Z).1;have e':aR (nI A) (u:Int)=t':=by rw[<-eu];exact e
    rcases C.o.place u with⟨j',p1,p2,_⟩|⟨_,p2⟩
    .have:t'=j':=ab
     subst this;rw[N] at p1;cases p1;exact J eu
    omega
end
def sw(A C:List Nat):List Nat:=C.map fun i=>(A[i]?).getD 0
section
variable{h:List GB}{A C:List Nat}
def Hg{i j k:Nat}(c:C[i]?=some j)(d:A[j]?=some k):(sw A C)[i]?=some k:=by unfold sw;rw[js,c];simp[d]
def NN(o:Ord A.length C)(c:(sw A C)[i]?=some k):∃j,C[i]?=some j/\A[j]?=some k:=by unfold sw at c;rw[js] at c;obtain⟨j,d,e⟩:=Option.map_eq_some_iff.1 c;have:=o.lt j (cN d);refine⟨j,d,?_⟩;rw[g_ this] at e⊢;simpa using e
def kU.comp(o:kU h A)(E:EB h)(s:kU (bh h A) C):kU h (sw A C):=by
 have W:(bh h A).length=A.length:=by simp[bh]
 have q:Ord A.length C:=by rw[<-W];exact s.o
 have d:∀k∈sw A C,∃i j:Nat,C[i]?=some j/\A[j]?=some k:=fun k c=>by obtain⟨i,D⟩:=iI c;obtain⟨j,a,b⟩:=NN q D;exact⟨i,j,a,b⟩
 refine⟨⟨?_,fun k c=>?_⟩,?_,fun k x c N u I=>?_⟩;unfold sw;refine List.pairwise_map.2 (q.nd.imp_of_mem fun {a b} ha hb eQ e=>eQ ?_);have w:=q.lt a ha;have J:=q.lt b hb;rw[g_ w,g_ J] at e;exact(List.getElem?_inj w o.o.nd).1 (by rw[g_ w,g_ J];simpa using e)
 obtain⟨i,j,_,m⟩:=d k c;exact o.o.lt k (cN m);exact Hg s.z o.z;obtain⟨i,j,D,m⟩:=d k c;obtain⟨V,v,rfl,O,Q,_⟩:=o.tgt E (cN m) N I;have:=s.cl j _ (cN D) (vE m N) (V:Int) (jo.2 ⟨_,I,Q⟩);simp at this;obtain⟨n,Y⟩:=iI this;exact cN (Hg Y O)
def Mm(d:kU h A)(E:EB h)(c:kU (bh h A) C):bh (bh h A) C=bh h (sw A C):=by
 have kl:(bh h A).length=A.length:=by simp[bh]
 have o2:Ord A.length C:=by rw[<-kl];exact c.o
 have o:=d.comp E c;have E1:=d.eb E;have pl:∀ {i j k:Nat},C[i]?=some j->A[j]?=some k->aR (nI (sw A C)) k=i:=fun a b=>o.o.pos (Hg a b);refine N6 (o.eb E) (c.eb E1) (by simp[bh,sw]) fun i y1 y2 h1 h2=>?_;obtain⟨k,x,Y,w,rfl⟩:=qi o.o h1;obtain⟨j,z,O,J,rfl⟩:=qi c.o h2;obtain⟨j',a1,Q⟩:=NN o2 Y;rw[O] at a1;cases a1;have Wv:=vE Q w;rw[J] at Wv;cases Wv;refine⟨⟨rfl,rfl,rfl,?_⟩,by simp[dY],fun m p p' N s=>?_⟩
 simp only[dY];rw[List.map_map];refine List.map_congr_left fun u hu=>?_;obtain⟨i',v,rfl,G9,wg,_⟩:=d.tgt E (cN Q) w hu;have:=c.cl j _ (cN O) J (i':Int) (jo.2 ⟨_,hu,wg⟩);simp at this;obtain⟨n,hn⟩:=iI this;show aR (nI C) (aR (nI A) (v:Int))=_;rw[wg,c.o.pos hn,pl hn G9]
 .simp only[dY] at N s;rw[List.map_map,js] at s;rw[js] at N;obtain⟨q,Z,rfl⟩:=Option.map_eq_some_iff.1 N;rw[Z] at s;cases s;have I:=cN Z;have l3:(sw A C).length=C.length:=by simp[sw]
  refine⟨rfl,fun e he=>?_⟩;obtain⟨y,hy,h0,rfl⟩:=(o.iV E Y w I e).1 he;have m2:mi (aR (nI A)) A.length (aX h k) q∈(dY (aR (nI A)) A.length (aX h k) x).bD:=EX I;refine(c.iV E1 O J m2 _).2 ?_;obtain⟨u,D,_⟩:=cO.1 (List.of_mem_zip (a:=y.1) (b:=y.2) hy).1;rw[D] at h0⊢;rcases o.o.place u with⟨n,p1,W,_⟩|⟨_,W⟩
  obtain⟨j0,V,b2⟩:=NN o2 p1;refine⟨(aR (nI A) y.1,y.2),(d.iV E Q w I _).2 ⟨y,hy,by rw[D,d.o.pos b2];omega,rfl⟩,?_,?_⟩;show 0<=aR (nI C) (aR (nI A) y.1);rw[D,d.o.pos b2,c.o.pos V];omega;show(aR (nI (sw A C)) (u:Int),y.2)=(aR (nI C) (aR (nI A) y.1),y.2);rw[D,d.o.pos b2,c.o.pos V,W]
  omega
end
inductive Db:List GB->List GB->Prop
 |refl (a:List GB):Db a a
 |step {a g:List GB} {b t:Nat} {X T:GB} (s:Db a g) (c:dm g b t X T):Db a (bh (iv g b t T) (jv g.length t))
def MM(E:EB g):kU g (List.range g.length):=by refine⟨⟨List.nodup_range,fun x c=>N4.1 c⟩,?_,fun k x _ c u d=>?_⟩;rw[List.getElem?_range (av E.n1)];have:=E.to x (cN c) u d;exact N4.2 ab
def acz(E:EB g):bh g (List.range g.length)=g:=by
 have C:=MM E;have q:∀k:Nat,k<g.length->aR (nI (List.range g.length)) (k:Int)=k:=fun k c=>C.o.pos (List.getElem?_range c);refine N6 E (C.eb E) (by simp[bh]) fun i x y j N=>?_;obtain⟨k,z,c,I,rfl⟩:=qi C.o N;have J:=(di.mp j).1;rw[List.getElem?_range J] at c;cases c;rw[j] at I;cases I;refine⟨⟨rfl,rfl,rfl,?_⟩,by simp[dY],fun m p Q w s=>?_⟩
 .show x.to.map _=x.to
  conv=>rhs;rw[<-List.map_id x.to]
  refine List.map_congr_left fun u d=>?_;have:=E.to x (cN j) u d;obtain⟨v,rfl⟩:∃v:Nat,u=v:=⟨u.toNat,ab⟩;exact q v ab
 simp only[dY] at s;rw[js,w] at s;cases s;refine⟨rfl,fun e D=>?_⟩;obtain⟨u,o,Y,O,_⟩:=cO.1 (List.of_mem_zip (a:=e.1) (b:=e.2) D).1;have d:=(di.mp O).1;exact(C.iV E (List.getElem?_range J) j (cN w) e).2 ⟨e,D,by rw[o,q u d];omega,by rw[o,q u d,<-o]⟩
def Db.S8(s:Db K g')(E:EB K):∃g A,Steps K g/\EB g/\kU g A/\Dd g A/\g'=bh g A:=by
 induction s with
 |refl=>
  refine⟨K,List.range K.length,.refl _,E,MM E,fun k x q w=>?_,(acz E).symm⟩;exact absurd (N4.2 (di.mp q).1) w
 | @step g0 b' t' X' T' s o W=>
  obtain⟨g,A,S,d,C,D,rfl⟩:=W;have J:=C.eb d;obtain⟨b,t,X,T,V,N,c,rfl,rfl⟩:=C.back d D o;have Q:=Yv C d c V N o;have O:=C.cX c;have I:=c.eb d;have L:=o.left J;rw[Q] at L;have Y:(bh g A).length=A.length:=by simp[bh]
  refine⟨stepG g b t X T,sw A (jv (bh g A).length t'),S.trans (.one c),I,O.comp I L,fun k x q w=>?_,?_⟩
  .by_cases h:k∈A;obtain⟨j,m⟩:=iI h;by_cases e:j=t';subst e;rw[N] at m;cases m;obtain⟨z,hz,rfl⟩:=fH q;rw[tm rfl];rfl;have Z:=(di.mp m).1;obtain⟨i,hi⟩:=iI (xk.2 ⟨(by rw[Y];exact Z:j<(bh g A).length),e⟩);exact absurd (cN (Hg hi m)) w
   exact D.step (cN V) k x q h
  rw[o.kept J,Q,Mm O I L]
def Db.done{K g' n:List GB}{rk:Nat->Nat}(s:Db K g')(E:EB K)(R:Rk K rk)(d:∀x,uV g' x)(S:Steps K n)(no:∀x,uV n x):∃A,EB n/\kU n A/\g'=bh n A:=by
 obtain⟨g,A,m,j,C,D,rfl⟩:=s.S8 E;have q:∀x,uV g x:=fun x u X U c=>by obtain⟨b',t',o⟩:=C.fwd j D c;exact d _ _ _ _ o
 have e:=ajO _ K (fh _) E R g n m S q no;subst e;exact⟨A,j,C,rfl⟩
def afL(E:EB bs):Rk (bh bs (dP bs)) id:=fun k J=>by
 have C:=E.D7;have N:(bh bs (dP bs)).length=(dP bs).length:=by simp[bh]
 by_cases h:k<(dP bs).length;obtain⟨w,o,D⟩:=ME E.ends E.n1 k ab h;obtain⟨x,m⟩:=aV (dP bs) k h;have q:=C.o.lt x (cN m);have d:=E.ahead q;obtain⟨p,s,c⟩:=(Tree.pV m d).1 o;exact .inr ⟨w,(C.ahead E m).2 ⟨p,s,c⟩,D⟩
 refine .inl (List.eq_nil_iff_forall_not_mem.2 fun a d=>?_);obtain⟨j,_,Y,I,c⟩:=cO.1 d;have:=(C.eb E).to Y (cN I) k c;omega
end Go.Proofs.YtdhnndleffachaaGreatDoor
namespace Go.AI.Dfs
section
variable{tos:List (List Nat)}{n:Nat}
def EU(q:∀b t,t∈row tos b->t<n){k:Nat}(o:∀b s,s.seen.length=n->b<n->¬s.seen[b]?=some true->cU s<=k->visitM tos (k+1) b s=visitM tos k b s):∀(l:List Nat)(s:DS),s.seen.length=n->(∀t∈l,t<n)->cU s<=k->foldM tos (k+1) l s=foldM tos k l s
 |[],_,_,_,_=>rfl
 |t::l,s,m,j,d=>by rw[j5,j5];by_cases c:s.seen[t]?=some true;rw[bM c,bM c];exact EU q o l s m (fun t h=>j t (uQ _ h)) d;rw[bU c,bU c,o t s m (j t (h_ ..)) c d];obtain⟨new,v,_⟩:=J7 q k t s m (j t (h_ ..)) c d;refine EU q o l _ v.len (fun t h=>j t (uQ _ h)) (sx ?_ d);exact countP_le (m.trans v.len.symm) fun x w=>(v.seen x).2 (.inl w)
def J5(c:∀b t,t∈row tos b->t<n):∀(k b:Nat)(s:DS),s.seen.length=n->b<n->¬s.seen[b]?=some true->cU s<=k->visitM tos (k+1) b s=visitM tos k b s
 |0,b,s,j,o,d,m=>av (mJ (s:=s) ab d)
 |k+1,b,s,j,o,d,m=>by rw[gJ,gJ tos k];have q:=mJ (s:=s) ab d;rw[EU c (J5 c k) _ _ (aj j) (fun t h=>c b t (List.mem_reverse.1 h)) ab]
def J6(c:∀b t,t∈row tos b->t<n){k b:Nat}{s:DS}(o:s.seen.length=n)(d:b<n)(j:¬s.seen[b]?=some true)(q:cU s<=k):∀m,visitM tos (k+m) b s=visitM tos k b s
 |0=>rfl
 |m+1=>by rw[<-EV,J5 c (k+m) b s o d j ab,J6 c o d j q m]
end
structure Sm(A:List Nat)(s s':DS):Prop where
 seen:∀i k:Nat,A[i]?=some k->s'.seen[i]?=s.seen[k]?
 left:s.left=s'.left.map fun i=>(A[i]?).getD 0
 l1:s'.seen.length=A.length
 l2:∀k∈A,k<s.seen.length
section
variable{tos ZT:List (List Nat)}{A:List Nat}
def Ir{k:Nat}(m:∀i b s c,A[i]?=some b->Sm A s c->Sm A (visitM tos k b s) (visitM ZT k i c)):∀(d:List Nat)(s c:DS),(∀t∈d,t<A.length)->Sm A s c->Sm A (foldM tos k (d.map fun i=>(A[i]?).getD 0) s) (foldM ZT k d c)
 |[],_,_,_,h=>h
 |t::d,s,c,o,h=>by
  rw[xX,j5,j5];have w:=o t (h_ ..);obtain⟨b,q⟩:=aV A t w;have e:(A[t]?).getD 0=b:=by rw[q];rfl
  rw[e,<-h.seen t b q];by_cases j:c.seen[t]?=some true;rw[bM j,bM j];exact Ir m d s c (fun t h=>o t (uQ _ h)) h;rw[bU j,bU j];exact Ir m d _ _ (fun t h=>o t (uQ _ h)) (m t b s c q h)
def MY(nd:A.Nodup)(D:∀i b,A[i]?=some b->row tos b=(row ZT i).map (fun i=>(A[i]?).getD 0)/\∀t∈row ZT i,t<A.length):∀(k i b:Nat)(s d:DS),A[i]?=some b->Sm A s d->Sm A (visitM tos k b s) (visitM ZT k i d)
 |0,_,_,_,_,_,h=>h
 |k+1,i,b,s,d,m,h=>by
  obtain⟨O,J⟩:=D i b m;have I:=(di.mp m).1;have h1:Sm A ⟨s.seen.set b true,s.left⟩ ⟨d.seen.set i true,d.left⟩:=by
   refine⟨fun j c q=>?_,h.left,aj h.l1,fun k N=>aj (h.l2 k N)⟩;show(d.seen.set i true)[j]?=(s.seen.set b true)[c]?;rw[fL,fL];by_cases e:i=j
   subst e;rw[m] at q;cases q;rw[bM rfl,bM rfl,bM (by rw[h.l1];exact I),bM (h.l2 b (cN m))];have w:b≠c:=fun w=>e (by subst w;exact(List.getElem?_inj I nd).1 (m.trans q.symm));rw[bU e,bU w];exact h.seen j c q
  have o:=Ir (MY nd D k) (row ZT i).reverse _ _ (fun t Q=>J t (List.mem_reverse.1 Q)) h1;rw[gJ,gJ,O,<-List.map_reverse];refine⟨o.seen,?_,o.l1,o.l2⟩;show _++[b]=List.map _ (_++[i]);rw[List.map_append,o.left];simp[m]
end
end Go.AI.Dfs
namespace Go.Proofs.YtdhnndleffachaaGreatDoor
open Go.AI
variable{B L0 P:SV}{F X aB k nb sF sN sX:Nat}{QQ:bK->Env->az->Prop}{aI n p r:Int}{b:GB}{bs:List GB}{cs:List Value}{dE more0:Bool}{e:Env}{es:List Int}{ff need:List Bool}{h h0 h1 hA:az}{l l0:List (Bool×Int)}{name:ByteArray}{x:GI}
def RU{x:GB}(h:bs[k]?=some x):Dfs.row (gE bs) k=x.to.map Int.toNat:=by unfold Dfs.row gE;rw[js,h];rfl
def acC{g:List GB}{A:List Nat}(C:kU g A)(E:EB g):sw A (dP (bh g A))=dP g:=by
 have J:(bh g A).length=A.length:=by simp[bh]
 have O:=C.eb E;have al:=C.o.len;have D:∀i b,A[i]?=some b->Dfs.row (gE g) b=(Dfs.row (gE (bh g A)) i).map (fun i=>(A[i]?).getD 0)/\∀t∈Dfs.row (gE (bh g A)) i,t<A.length:=fun i b o=>by obtain⟨x,q⟩:=aV g b (C.o.lt b (cN o));rw[RU q,RU (vE o q)];simp only[dY];refine⟨?_,fun t j=>?_⟩;rw[List.map_map,List.map_map];refine List.map_congr_left fun u I=>?_;obtain⟨Q,v,rfl,h1,d,_⟩:=C.tgt E (cN o) q I;simp[d,h1];obtain⟨w,N,rfl⟩:=jo.1 j;obtain⟨u,I,rfl⟩:=jo.1 N;obtain⟨Q,v,rfl,h1,d,_⟩:=C.tgt E (cN o) q I;have:=(di.mp h1).1;simp[d,this]
 have S:=Dfs.MY C.o.nd D g.length 0 0 ⟨List.replicate g.length false,[]⟩ ⟨List.replicate A.length false,[]⟩ C.z ⟨fun i k m=>by have h1:=(di.mp m).1;have d:=C.o.lt k (cN m);simp[h1,d],rfl,ae,fun k m=>aj (C.o.lt k m)⟩;have j:∀b t,t∈Dfs.row (gE (bh g A)) b->t<A.length:=fun b t j=>by have:=vM O.ends b t j;rw[J] at this;exact this
 have c:=Dfs.J6 (k:=A.length) (b:=0) (s:=⟨List.replicate A.length false,[]⟩) j ae (by have:=(di.mp C.z).1;exact this) (by simp[SI]) (by unfold Dfs.cU;exact sx List.countP_le_length ae) (g.length-A.length);rw[Nat.add_sub_cancel' al] at c;have L:=S.left;rw[c] at L;unfold sw dP;rw[List.map_reverse,J];exact congrArg List.reverse L.symm
def Xz{bs g' n:List GB}(E:EB bs)(s:Db (bh bs (dP bs)) g')(c:∀x,uV g' x)(S:Steps (bh bs (dP bs)) n)(no:∀x,uV n x):bh g' (dP g')=bh n (dP n):=by obtain⟨A,d,C,rfl⟩:=s.done (E.D7.eb E) (afL E) c S no;rw[Mm C d (C.eb d).D7,acC C d]
def DX(p:Int->Bool):∀(es l:List Int),(∀x∈es,p x=false->x∈l)->dh l es=dh l (es.filter p)
 |[],_,_=>rfl
 |e::es,l,h=>by
  have d:∀x∈es,p x=false->x∈dN l e:=fun x j c=>(Mx l e).subset (h x (uQ _ j) c);cases c:p e with
  |true=>
   rw[List.filter_cons_of_pos c];exact DX p es _ d
  |false=>
   rw[List.filter_cons_of_neg (au c)];have:dN l e=l:=by unfold dN;rw[bM (h e h_ c)]
   show dh (dN l e) es=_;rw[this] at d⊢;exact DX p es l d
def acK{l es fs:List Int}(h:es.filter (fun e=> !decide (e∈l))=fs.filter (fun e=> !decide (e∈l))):dh l es=dh l fs:=by rw[DX (fun e=> !decide (e∈l)) es l (fun x _ h=>aj h),DX (fun e=> !decide (e∈l)) fs l (fun x _ h=>aj h),h]
def InF(x:GI):Prop:=u0 (gW x)=oz x.a++(oz x.b++u0 x.args)
def Cv{v:Bool×Int}(h:v.1=false):oz v=[]:=by unfold oz;rw[h];rfl
def vd.inF{aB:Int}(h:vd aB x):InF x:=by
 have c:=h.form;have q:=h.op;unfold cJ dK at c;unfold InF gW;by_cases m:x.op=21
 rw[bM m];simp[m] at c;rw[Cv c.1.1,Cv c.2.1.1,c.2.2.2];rfl;rw[bU m];by_cases j:x.op=20;rw[bM j];simp[j] at c;rw[Cv c.1.1,Cv c.2.1];rfl;rw[bU j];by_cases d:(2<=x.op/\x.op<=15)\/x.op=19
 .rw[bM d];have:¬(x.op=1\/x.op=16\/x.op=17\/x.op=18):=ab
  rw[bU this] at c;have hA:x.args=[]:=by
   rcases d with d|d;rw[bM d] at c;simp[j] at c;exact c.2
   .have:¬(2<=x.op/\x.op<=15):=ab
    simp[d] at c;exact c.2.2
  rw[hA];simp[u0]
 .rw[bU d,bM ab];have e:¬(2<=x.op/\x.op<=15):=ab
  have s:¬x.op=19:=ab
  have:x.b.1=false/\x.args=[]:=by
   by_cases o:x.op=1\/x.op=16\/x.op=17\/x.op=18;rw[bM o] at c;simp[j] at c;exact⟨c.1.1,c.2.2⟩
   .have:x.op=22:=ab
    simp[this] at c;exact⟨c.2.1.1,c.2.2.2⟩
  rw[Cv this.1,this.2];simp[u0]
def Hr:∀(vs:List (Bool×Int))(l:List Int),fV l vs=dh l (u0 vs)
 |[],_=>rfl
 |v::vs,l=>by
  have h1:fV l (v::vs)=fV (if v.1 then dN l v.2 else l) vs:=rfl;have c:u0 (v::vs)=oz v++u0 vs:=by simp[u0]
  rw[h1,c,eF,Hr vs];unfold oz;split<;>rfl
def afP(h:InF x)(l:List Int):Ft l x=dh l (DH x):=by unfold Ft DH;rw[<-G1,<-G1,G1 (oz x.a),<-h,eF,Hr];split<;>rfl
def WE:∀ {xs:List GI},(∀x∈xs,InF x)->∀l,wq l xs=dh l (xs.flatMap DH)
 |[],_,_=>rfl
 |x::xs,h,l=>by show wq (Ft l x) xs=_;rw[List.flatMap_cons,eF,afP (h x h_),WE fun y c=>h y (uQ _ c)]
def WG:∀(ps:List GP)(l:List Int),Fs l ps=dh l (ps.map (·.dst))
 |[],_=>rfl
 |p::ps,l=>WG ps (dN l p.dst)
def BsF(bs:List GB):Prop:=∀b∈bs,∀x∈b.list,InF x
def afN(h:∀x∈b.list,InF x)(l:List Int):UL l b=dh l (Qr b):=by unfold UL Qr;rw[WG,WE h,eF,eF,Hr];simp[u0]
def zL:∀ {bs:List GB},BsF bs->∀l,qJ l bs=dh l (bs.flatMap Qr)
 |[],_,_=>rfl
 |b::bs,h,l=>by show qJ (UL l b) bs=_;rw[List.flatMap_cons,eF,afN (h b h_),zL fun y c=>h y (uQ _ c)]
def ev3(b:GB):List Int:=b.bD.flatMap fun q=>u0 q.row
def Oq:∀(ps:List GP)(l:List Int),Bl l ps=dh l (ps.flatMap fun q=>u0 q.row)
 |[],_=>rfl
 |p::ps,l=>by show Bl (fV l p.row) ps=_;rw[List.flatMap_cons,eF,Oq ps,Hr]
def DZ:∀(bs:List GB)(l:List Int),yF l bs=dh l (bs.flatMap ev3)
 |[],_=>rfl
 |b::bs,l=>by show yF (Bl l b.bD) bs=_;rw[List.flatMap_cons,eF,DZ bs,Oq];rfl
def ET{α:Type}{p:Int->Bool}{f g:α->List Int} :∀ {xs:List α},(∀x∈xs,(f x).filter p=(g x).filter p)->(xs.flatMap f).filter p=(xs.flatMap g).filter p
 |[],_=>rfl
 |x::xs,h=>by rw[List.flatMap_cons,List.flatMap_cons,List.filter_append,List.filter_append,h x h_,ET fun y c=>h y (uQ _ c)]
def LQ{p:Int->Bool}(h:∀x∈es,p x=false):es.filter p=[]:=List.filter_eq_nil_iff.2 fun x c=>by simp[h x c]
def afO{p:Nat}(h:BsF bs):DY p bs=zM p bs:=by
 unfold DY zM;rw[DZ,zL h];refine acK (ET fun b j=>?_);have d:∀x∈Qr b,decide (x∈dh (kT p) (bs.flatMap Qr))=true:=fun x c=>aj (uj _ _ (List.mem_flatMap.2 ⟨b,j,c⟩))
 unfold ev3 LO;rw[List.filter_append,LQ (es:=b.list.flatMap DH++oz b.on) (fun x c=>by simp[d x (List.mem_append_right _ c)]),Bc];refine ET fun q m=>?_;unfold yO;rw[List.filter_append,LQ (es:=[q.dst]) (fun x c=>by cases List.mem_singleton.1 c;simp[d q.dst (List.mem_append_left _ (jo.2 ⟨q,m,rfl⟩))])];rfl
def Ag :r∈u0 l↔(true,r)∈l:=by unfold u0 oz;rw[List.mem_flatMap];constructor;rintro⟨⟨a,b⟩,h,e⟩;cases a<;>simp at e;subst e;exact h;intro h;exact⟨_,h,ae⟩
def vd.inV{aB:Int}(h:vd aB x):u0 (dH x)=u0 (gW x):=by
 rw[h.inF];have c:=h.form;unfold cJ at c;have e:∀a b:List (Bool×Int),u0 (a++b)=u0 a++u0 b:=fun a b=>by simp[u0]
 have o:∀v:Bool×Int,u0 [v]=oz v:=fun v=>by simp[u0]
 unfold dH;rw[e,e];congr 1;split;exact o _;rename_i k;simp[k] at c;rw[Cv (au c)];rfl;congr 1;split;exact o _;rename_i k;simp[k] at c;rw[Cv (au c)];rfl
def Ls(bs:List GB):Prop:=∀b∈bs,∀x∈b.list,u0 (dH x)=u0 (gW x)
section
variable{aI:Int}{need:List Bool}{bs:List GB}{aB:Nat}
def yw(aI:Int)(need:List Bool)(x:GI):List (Bool×Int):=if eW aI need x then [] else gW x
def Bn(need:List Bool)(q:GP):List (Bool×Int):=if eJ need q then [] else q.row
def TA(aI:Int)(need:List Bool)(b:GB):List (Bool×Int):=([b.on]++b.list.flatMap (yw aI need))++b.bD.flatMap (Bn need)
def Rj(h:oe need n=true):need[n.toNat]?=some true:=by
 unfold oe at h;cases e:need[n.toNat]? with
 |none=>rw[e] at h;cases h
 |some b=>rw[e] at h;cases b<;>simp at h;rfl
def PJ(h:need[n.toNat]?=some true):oe need n=true:=by unfold oe;rw[h];rfl
def ah_(U:Ls bs)(I:∀b∈bs,FN aI aB b){P:Nat->Prop}(c:z6 aI bs P)(h:∀n:Nat,need[n]?=some true->P n)(m:b∈bs):∀v∈TA aI need b,v.1=true->P v.2.toNat:=fun v d h1=>by
 obtain⟨J,s⟩:=v;dsimp only at h1;subst h1;rcases jS.1 d with d|d
 .rcases jS.1 d with d|d;rw[List.mem_singleton] at d;exact c.rt b m (true,s) (List.mem_append_right _ (List.mem_singleton.2 d)) rfl
  .obtain⟨x,w,d⟩:=List.mem_flatMap.1 d;unfold yw at d;by_cases j:eW aI need x=true;rw[bM j] at d;cases d
   .rw[bU j,<-Ag,<-U b m x w,Ag] at d;by_cases o:lq aI x=true
    .have D:oe need x.dst=true:=by unfold eW at j;rw[o] at j;simpa using j
     exact c.li b m x w ((I b m).q x w o) (h _ (Rj D)) (true,s) d rfl
    refine c.rt b m (true,s) (List.mem_append_left _ (List.mem_flatMap.2 ⟨x,w,?_⟩)) rfl;unfold Mp;rw[bU (by exact o)];exact d
 obtain⟨q,o,d⟩:=List.mem_flatMap.1 d;unfold Bn at d;by_cases j:eJ need q=true;rw[bM j] at d;cases d;rw[bU j] at d;unfold eJ at j;exact c.ph b m q o (h _ (Rj (aj j))) (true,s) d rfl
def ah9(U:Ls bs)(h:∀b∈bs,∀v∈TA aI need b,v.1=true->need[v.2.toNat]?=some true):z6 aI bs fun n=>need[n]?=some true:=by
 have o:∀b∈bs,∀x∈b.list,¬eW aI need x=true->∀u∈dH x,u.1=true->need[u.2.toNat]?=some true:=fun b d x j D u c h1=>by obtain⟨I,w⟩:=u;dsimp only at h1;subst h1;rw[<-Ag,U b d x j,Ag] at c;refine h b d (true,w) (List.mem_append_left _ (List.mem_append_right _ (List.mem_flatMap.2 ⟨x,j,?_⟩))) rfl;unfold yw;rw[bU D];exact c
 refine⟨fun b d u c h1=>?_,fun b d x j h0 m=>o b d x j (by unfold eW;simp[PJ m]),fun b d q s m u c h1=>?_⟩;rcases jS.1 c with c|c;obtain⟨x,j,c⟩:=List.mem_flatMap.1 c;unfold Mp at c;split at c;cases c;rename_i e;exact o b d x j (by unfold eW lq;simp[e]) u c h1;exact h b d u (List.mem_append_left _ (List.mem_append_left _ c)) h1;refine h b d u (List.mem_append_right _ (List.mem_flatMap.2 ⟨q,s,?_⟩)) h1;unfold Bn eJ;rw[bU (by simp[PJ m])];exact c
structure MkR(ff:List Bool)(more0:Bool)(l:List (Bool×Int))(need:List Bool)(dE:Bool):Prop where
 nl:need.length=ff.length
 sub:∀n:Nat,ff[n]?=some true->need[n]?=some true
 all:∀v∈l,v.1=true->need[v.2.toNat]?=some true
 snd:∀P:Nat->Prop,(∀n:Nat,ff[n]?=some true->P n)->(∀v∈l,v.1=true->P v.2.toNat)->∀n:Nat,need[n]?=some true->P n
 ch:(dE=more0/\need=ff)\/(dE=true/\jb need<jb ff)
def MkR.nil{dE:Bool} :MkR need dE [] need dE:=⟨rfl,fun _ h=>h,nofun,fun _ h _=>h,.inl ⟨rfl,rfl⟩⟩
def MkR.one{v:Bool×Int}(w:MkR ff more0 l need dE)(h:v.1=true->need[v.2.toNat]?=some true):MkR ff more0 (l++[v]) need dE:=
 ⟨w.nl,w.sub,fun u c h1=>(jS.1 c).elim (fun e=>w.all u e h1) fun e=>by cases List.mem_singleton.1 e;exact h h1,fun P h1 d=>w.snd P h1 fun u c=>d u (List.mem_append_left _ c),w.ch⟩
def MkR.put{v:Bool×Int}(w:MkR ff more0 l need dE)(q:v.1=true)(h:need[v.2.toNat]?=some false):MkR ff more0 (l++[v]) (need.set v.2.toNat true) true:=by
 have m:=(di.mp h).1;have up:∀n:Nat,need[n]?=some true->(need.set v.2.toNat true)[n]?=some true:=fun n c=>by rw[fL];by_cases e:v.2.toNat=n;rw[bM e,bM m];rw[bU e];exact c
 have d:(need.set v.2.toNat true)[v.2.toNat]?=some true:=by rw[fL,bM rfl,bM m]
 refine⟨by rw[List.length_set];exact w.nl,fun n c=>up n (w.sub n c),fun u j h1=>?_,fun P h1 o n c=>?_,.inr ⟨rfl,?_⟩⟩;rcases jS.1 j with e|e;exact up _ (w.all u e h1);cases List.mem_singleton.1 e;exact d;rw[fL] at c;by_cases e:v.2.toNat=n;rw[<-e];exact o v (List.mem_append_right _ (List.mem_singleton.2 rfl)) q;rw[bU e] at c;exact w.snd P h1 (fun u j=>o u (List.mem_append_left _ j)) n c;have:=zz h;rcases w.ch with⟨_,e⟩|⟨_,e⟩;rw[e] at this⊢;omega;omega
structure RdR(aI:Int)(bs:List GB)(ff:List Bool)(j:Nat)(need:List Bool)(dE:Bool):Prop where
 nl:need.length=ff.length
 snd:∀P:Nat->Prop,z6 aI bs P->(∀n:Nat,ff[n]?=some true->P n)->∀n:Nat,need[n]?=some true->P n
 ch:(dE=false/\need=ff/\∀b∈bs.take j,∀v∈TA aI ff b,v.1=true->ff[v.2.toNat]?=some true)\/(dE=true/\jb need<jb ff)
def RdR.zero:RdR aI bs need 0 need false:=⟨rfl,fun _ _ h=>h,.inl ⟨rfl,rfl,by rw[List.take_zero];nofun⟩⟩
def RdR.step{ff need':List Bool}{dE J:Bool}{j:Nat}{b:GB}(U:Ls bs)(I:∀b∈bs,FN aI aB b)(w:RdR aI bs ff j need dE)(N:bs[j]?=some b)(m:MkR need dE (TA aI need b) need' J):RdR aI bs ff (j+1) need' J:=by
 have Q:=cN N;refine⟨m.nl.trans w.nl,fun P c h=>?_,?_⟩;have h1:=w.snd P c h;exact m.snd P h1 (ah_ U I c h1 Q)
 .rcases m.ch with⟨q,o⟩|⟨q,o⟩
  .rw[q,o];rcases w.ch with⟨O,D,V⟩|k;refine .inl ⟨O,D,fun x d v s h1=>?_⟩;rw[lg,N] at d;rcases jS.1 d with d|d;exact V x d v s h1;cases List.mem_singleton.1 d;rw[<-D] at s⊢;have:=m.all v s h1;rw[o] at this;exact this
   exact .inr k
  refine .inr ⟨q,?_⟩;rcases w.ch with⟨_,k,_⟩|⟨_,k⟩;rw[<-k];exact o;omega
def amk(aI:Int)(bs:List GB)(need:List Bool):Prop:=∀P:Nat->Prop,z6 aI bs P->∀n:Nat,need[n]?=some true->P n
def RdR.done(U:Ls bs)(w:RdR aI bs ff bs.length need false)(d:ff.length=aB)(s:amk aI bs ff):tD aI bs aB need:=by rcases w.ch with⟨_,j,c⟩|⟨k,_⟩;subst j;rw[jT] at c;exact⟨d,ah9 U c,s⟩;cases k
end
def xH{α:Type}(E:Enc α)(n0:Nat)(h:az)(v:Value)(xs:List α):Prop:=bu E n0 h v xs\/∃b s,v=.slice (some ⟨b,0,none⟩) xs.length xs.length/\h.tr.get b=some (.bZ (E.flat xs) false 0 s)/\n0<=b
section
variable{α:Type}{E:Enc α}{n0:Nat}{h h':az}{v:Value}{xs ys:List α}
def xH.sv(a:xH E n0 h v xs):∃L:SV,v=L.v:=by rcases a with a|⟨b,s,rfl,_⟩;exact bu.C5 a;exact⟨⟨some ⟨b,0,none⟩,_,_⟩,rfl⟩
def xH.of(a:xH E n0 h v xs){c:Nat}(o:bt v c):n0<=c:=by rcases a with a|⟨b,s,rfl,_,d⟩;exact bu.of a o;obtain⟨_,_,_,e⟩:=o;cases e;exact d
def xH.sl(a:xH E n0 h v xs):bj E h v xs:=by rcases a with a|⟨b,s,rfl,c,_⟩;exact a.sl;exact⟨_,_,rfl,.inr ⟨b,0,_,_,_,_,rfl,c,ae,by simp[pg]⟩⟩
def xH.ck(a:xH E n0 h v xs)(c:cr h)(g:ay aZ h h'):xH E n0 h' v xs:=by rcases a with a|⟨b,s,e,j,d⟩;exact .inl (a.grow c g fun _ _ h=>h);exact .inr ⟨b,s,e,g.get c j,d⟩
def xL(j:cr h){bytes:Nat}{z:List Value}{w:Value}(d:z.length=E.sz)(a:xH E n0 h v xs)(o:bj E h w ys)(m:xs.length+ys.length<1000000)(D:bytes<=1000)(J:n0<=h.aw):∃c h',fS h z bytes false v w=some (c,h')/\xH E n0 h' c (xs++ys)/\ay (bt v) h h':=by
 rcases a with a|⟨b,s,rfl,I,W⟩;obtain⟨c,h',e,Q,g⟩:=qt j d a o m D J;exact⟨c,h',e,.inl Q,g⟩
 .unfold fS;rw[yj d o];dsimp only;have q:=E.pos;have Y:E.sz≠0:=ab
  cases ys with
  |nil=>
   refine⟨.slice (some ⟨b,0,none⟩) xs.length xs.length,h,?_,by rw[Bc];exact .inr ⟨b,s,rfl,I,W⟩,.refl j⟩;simp[dy,d,q]
  |cons y ys=>
   have V:roomy (xs.length+(ys.length+1))=true:=by simp[roomy];simp at m;omega
   have N:roomy ((xs.length+(ys.length+1))*bytes)=true:=by have:(xs.length+(ys.length+1))*bytes<=1000000*1000:=Nat.mul_le_mul (by simp at m;omega) D;simp[roomy];omega
   have O:¬xs.length+(ys.length+1)<=xs.length:=ab
   have Z:(E.flat xs).take (xs.length*E.sz)=E.flat xs:=pg ae;refine⟨.slice (some ⟨h.aw,0,none⟩) (xs.length+(ys.length+1)) (xs.length+(ys.length+1)),aK h (E.flat xs++E.flat (y::ys)) E.sz,?_,.inl (.inr ⟨h.aw,0,ae,by rw[Enc.d_];exact bz _ _ _,ae,J⟩),(aN j _ _).ck⟩;simp[dy,d,q,V,N,I,O,Z,Y]
def aaW{x:α}(c:dg h n0 (E.enc x)):xH E n0 h (.slice (some ⟨n0,0,none⟩) 1 1) [x]:=by obtain⟨s,c⟩:=c;exact .inr ⟨n0,s,rfl,by simpa [Enc.flat] using c,fh _⟩
end
def zB{α β:Type}{f:α->List β}{k:Nat} :∀ {xs:List α},(∀x∈xs,(f x).length<=k)->(xs.flatMap f).length<=xs.length*k
 |[],_=>ae
 |x::xs,h=>by have h1:=h x h_;have d:=zB (f:=f) (xs:=xs) fun y c=>h y (uQ _ c);rw[List.flatMap_cons,LV,List.length_cons,uP];omega
def ahO:List Nat:=[9,10]++(List.range 34).map (· +40)
def al4(hA:az)(l0:List (Bool×Int))(aI:Int)(need:List Bool)(xs:List GI)(e:Env)(m:Nat)(e':Env)(h':az):Prop:=
 ∃(j:Nat) (L:SV),m=xs.length-j/\j<=xs.length/\aM ahO e e'/\bH e' 9=L.v/\bJ e' 10 j/\ay aZ hA h'/\xH cC hA.aw h' L.v (l0++(xs.take j).flatMap (yw aI need))
def U5(dt:cr h0)(g0:ay aZ h0 hA)(gA:ay aZ hA h1){P I L0:SV}{xs:List GI}(sI:aD (iR h0) 8 h0 I.v xs)(hX:fC hA X (P.v::I.v::cs) sX)(hN:fC hA nb (ja.flat need) sN)(nl:need.length=aB)(acc:xH cC hA.aw h1 L0.v l0)(QF:l0.length<=1)(xG:xs.length<=300)(x5:∀x∈xs,x.args.length<=100/\x.dst<aB)(hq:∀x∈xs,lq aI x=true->0<=x.dst)(f0:bJ e 0 aI)(f5:bH e 5=.slice (some ⟨nb,0,none⟩) aB aB)(f8:cm e 8 X)(f9:bH e 9=L0.v)(f10:bJ e 10 0)(C:∀e' h' (L:SV),aM ahO e e'->bH e' 9=L.v->ay aZ hA h'->xH cC hA.aw h' L.v (l0++xs.flatMap (yw aI need))->QQ (.exit 4) e' h'):aO FF (.loop ku) e h1 QQ:=by
 have hIl:=aD.len sI;refine aO.loop (al4 hA l0 aI need xs e) ?_ (n:=xs.length) ⟨0,L0,rfl,ab,aM.refl _ _,f9,f10,gA,aj acc⟩;rintro m e' h'⟨j,L,rfl,hj,K,q9,N,g,iY⟩;have bS:=g.ok;have gg:=g0.trans g;have q0:=K.at f0;have q5:=K.at f5;have q8:=K.at f8;have w:=g.get g0.ok hX;have Oa:=g.get g0.ok hN;simp at w;rw[hIl] at w;unfold ku;by_cases Y:j<xs.length
 .have wj:=cg ((j:Int)+1) ab ab;obtain⟨x,hx⟩:=aV xs j Y;have Kl:=cN hx;obtain⟨hal1,hal2⟩:=x5 x Kl;obtain⟨bI,axg,cI,hIa,_,_,⟨A,rfl,sA⟩,oI,o⟩:=aD.later dt sI hx;have r0:=o h' gg 0 8 ag;simp[-ax,aJ] at r0;rw[hIa] at w;have gn:=g.aw;have ll:(l0++(xs.take j).flatMap (yw aI need)).length<50000:=by
   have:=zB (f:=yw aI need) (k:=102) (xs:=xs.take j) fun y hy=>by
    have:=xD y;have:=(x5 y (XK hy)).1;unfold yw;split
    simp;omega
   have:(xs.take j).length*102<=300*102:=CX _ (by simp;omega);rw[LV];omega
  have ul:=xD x;have tk:=vu (f:=yw aI need) hx;simp[q0,q8,N,w,aF w,Y,r0,-ax];refine bm.call (V:=fun v D=>v=.bool (dW aI x.op x.a.1 x.a.2 x.b.1 x.b.2)/\ay aZ h' D) (by simpa [aJ] using Gz h' bS aI x.op x.dst x.a.2 x.b.2 x.fn x.a.1 x.b.1 A.a A.l A.c) ?_;rintro _ D⟨rfl,d⟩;have Hi:=gg.trans d;have W:=d.get bS w;have Qy:=d.get bS Oa;have gK:=iY.ck bS d;have r2:=o D Hi 0 8 ag;have rd:=o D Hi 1 1 ag;simp[-ax,aJ] at r2 rd;have hc:(lq aI x=true/\∃n:Nat,x.dst=n/\n<aB/\need[n]?=some false/\yw aI need x=[])\/(lq aI x=false/\yw aI need x=gW x)\/(lq aI x=true/\∃n:Nat,x.dst=n/\n<aB/\need[n]?=some true/\yw aI need x=gW x):=by
   unfold yw eW;cases hk:lq aI x with
   |false=>exact .inr (.inl ⟨rfl,ae⟩)
   |true=>
    obtain⟨n,J⟩:∃n:Nat,x.dst=n:=⟨x.dst.toNat,av (hq x Kl hk)⟩;have C0:n<aB:=ab
    obtain⟨t,s⟩:=aV need n;cases t with
    |false=>exact .inl ⟨rfl,n,J,C0,s,by simp[oe,J,s]⟩
    |true=>exact .inr (.inr ⟨rfl,n,J,C0,s,by simp[oe,J,s]⟩)
  have Q:∀(L2:SV)(Z:az),ay aZ hA Z->xH cC hA.aw Z L2.v (l0++(xs.take j).flatMap (yw aI need)++yw aI need x)->∀e4,aM ahO e e4->bH e4 9=L2.v->bJ e4 10 ((j+1:Nat):Int)->∃m'<xs.length-j,al4 hA l0 aI need xs e m' e4 Z:=fun L2 Z a b e4 k1 k2 k3=>⟨_,(by omega:xs.length-(j+1)<xs.length-j),j+1,L2,rfl,Y,k1,k2,k3,a,by rw[tk,<-G1];exact b⟩;rcases hc with⟨ue,n,J,C0,s,hu⟩|⟨ue,hu⟩|⟨ue,n,J,C0,s,hu⟩
  .have rt:=rI Qy s;rw[J] at rd;simp[show dW aI x.op x.a.1 x.a.2 x.b.1 x.b.2=true from ue,q5,q8,N,W,aF W,Y,rd,C0,rt,wj,-ax];refine Q L _ (g.trans d) (by rw[hu,Bc];exact gK) _ ?_ (au q9) ae
   exact aq
  .simp[show dW aI x.op x.a.1 x.a.2 x.b.1 x.b.2=false from ue,q8,q9,N,W,aF W,Y,r2,-ax];refine bm.call (V:=fun v O=>ay aZ D O/\∃U:SV,v=U.v/\bu cC D.aw O U.v (gW x)) (by simpa [aJ] using CP d.ok ((BP sA).ck dt Hi) (x:=x) ab) ?_;rintro _ O⟨q,U,rfl,aU⟩;have l2:=d.aw;have l3:=q.aw;obtain⟨v',Z,ha,uW,g4⟩:=xL (bytes:=16) q.ok (z:=[.bool false,.int .i64 0]) rfl (gK.ck d.ok q) aU.sl ab ag ab;obtain⟨L4,rfl⟩:=uW.sv;simp;refine cR (aj ha) ?_;simp[N,wj];refine Q L4 _ (((g.trans d).trans q).trans' g4 ai (fun c hc e=>av (gK.of e))) (by rw[hu];exact uW) _ ?_ ae ae
   exact aq
  .have rt:=rI Qy s;rw[J] at rd;simp[show dW aI x.op x.a.1 x.a.2 x.b.1 x.b.2=true from ue,q5,q8,q9,N,W,aF W,Y,rd,r2,C0,rt,-ax];refine bm.call (V:=fun v O=>ay aZ D O/\∃U:SV,v=U.v/\bu cC D.aw O U.v (gW x)) (by simpa [aJ] using CP d.ok ((BP sA).ck dt Hi) (x:=x) ab) ?_;rintro _ O⟨q,U,rfl,aU⟩;have l2:=d.aw;have l3:=q.aw;obtain⟨v',Z,ha,uW,g4⟩:=xL (bytes:=16) q.ok (z:=[.bool false,.int .i64 0]) rfl (gK.ck d.ok q) aU.sl ab ag ab;obtain⟨L4,rfl⟩:=uW.sv;simp;refine cR (aj ha) ?_;simp[N,wj];refine Q L4 _ (((g.trans d).trans q).trans' g4 ai (fun c hc e=>av (gK.of e))) (by rw[hu];exact uW) _ ?_ ae ae
   exact aq
 .have:j=xs.length:=ab
  subst this;rw[jT] at iY;simp[q8,N,w,aF w,-ax];refine C _ _ L ?_ (au q9) g iY
  exact aq
def al3:List Nat:=[9,11]++(List.range 24).map (· +74)
def ar0(hA:az)(l0:List (Bool×Int))(need:List Bool)(ps:List GP)(e:Env)(m:Nat)(e':Env)(h':az):Prop:=
 ∃(j:Nat) (L:SV),m=ps.length-j/\j<=ps.length/\aM al3 e e'/\bH e' 9=L.v/\bJ e' 11 j/\ay aZ hA h'/\xH cC hA.aw h' L.v (l0++(ps.take j).flatMap (Bn need))
def U7(dt:cr h0)(g0:ay aZ h0 hA)(gA:ay aZ hA h1){ps:List GP}(sP:aD (pR h0) 2 h0 P.v ps)(hX:fC hA X (P.v::cs) sX)(hN:fC hA nb (ja.flat need) sN)(nl:need.length=aB)(N:xH cC hA.aw h1 L0.v l0)(QF:l0.length<=50000)(wg:ps.length<=300)(hr:∀p∈ps,p.row.length<=100/\0<=p.dst/\p.dst<aB)(f5:bH e 5=.slice (some ⟨nb,0,none⟩) aB aB)(f8:cm e 8 X)(f9:bH e 9=L0.v)(W:bJ e 11 0)(C:∀D h' (L:SV),aM al3 e D->bH D 9=L.v->ay aZ hA h'->xH cC hA.aw h' L.v (l0++ps.flatMap (Bn need))->QQ (.exit 6) D h'):aO FF (.loop kt) e h1 QQ:=by
 have gY:=aD.len sP;refine aO.loop (ar0 hA l0 need ps e) ?_ (n:=ps.length) ⟨0,L0,rfl,ab,aM.refl _ _,f9,W,gA,aj N⟩;rintro m D h'⟨j,L,rfl,hj,K,I,s,g,o⟩;have bS:=g.ok;have Q:=g0.trans g;have q5:=K.at f5;have Z:=K.at f8;have d:=g.get g0.ok hX;have Oa:=g.get g0.ok hN;simp at d;rw[gY] at d;unfold kt;by_cases q:j<ps.length
 .have wj:=cg ((j:Int)+1) ab ab;obtain⟨p,O⟩:=aV ps j q;obtain⟨yE,SS,hr3⟩:=hr p (cN O);obtain⟨bP,apy,cP,kB,_,_,⟨A,rfl,sA⟩,oP,KW⟩:=aD.later dt sP O;obtain⟨n,Y⟩:∃n:Nat,p.dst=n:=⟨p.dst.toNat,ab⟩;have C0:n<aB:=ab
  obtain⟨t,J⟩:=aV need n;have rt:=rI Oa J;have w:=KW h' Q 0 1 ag;have r1:=KW h' Q 1 1 ag;simp[-ax] at w r1;rw[Y] at w;rw[kB] at d;have gn:=g.aw;have tk:=vu (f:=Bn need) O;have ll:(l0++(ps.take j).flatMap (Bn need)).length<90000:=by
   have:=zB (f:=Bn need) (k:=100) (xs:=ps.take j) fun y hy=>by have:=(hr y (XK hy)).1;unfold Bn;split;simp;omega
   have:(ps.take j).length*100<=300*100:=CX _ (by simp;omega);rw[LV];omega
  cases t with
  |false=>
   have V:Bn need p=[]:=by simp[Bn,eJ,oe,Y,J]
   simp[q5,Z,s,d,aF d,q,w,C0,rt,wj,-ax];refine⟨ps.length-(j+1),ab,j+1,L,rfl,q,?_,au I,ae,g,by rw[tk,V,Bc];exact o⟩
   exact aq
  |true=>
   have V:Bn need p=p.row:=by simp[Bn,eJ,oe,Y,J]
   simp[q5,Z,I,s,d,aF d,q,w,r1,C0,rt,-ax];obtain⟨v',h4,ha,uW,g4⟩:=xL (bytes:=16) bS (z:=[.bool false,.int .i64 0]) rfl o ((BP sA).ck dt Q) ab ag ab;obtain⟨L4,rfl⟩:=uW.sv;refine cR (aj ha) ?_;simp[s,wj];refine⟨ps.length-(j+1),ab,j+1,L4,rfl,q,?_,ae,ae,g.trans' g4 ai (fun c hc e=>av (o.of e)),by rw[tk,V,<-G1];exact uW⟩
   exact aq
 .have:j=ps.length:=ab
  subst this;rw[jT] at o;simp[Z,s,d,aF d,-ax];refine C _ _ L ?_ (au I) g o
  exact aq
def al2:List Nat:=[6,12]++(List.range 29).map (· +98)
def arZ(h1:az)(nb:Nat)(ff:List Bool)(more0:Bool)(l:List (Bool×Int))(e:Env)(m:Nat)(e':Env)(h':az):Prop:=
 ∃(j:Nat) (need:List Bool) (dE:Bool),m=l.length-j/\j<=l.length/\aM al2 e e'/\bH e' 6=.bool dE/\bJ e' 12 j/\ay (· =nb) h1 h'/\(dg h' nb (ja.flat need))/\MkR ff more0 (l.take j) need dE
def U6(gi:cr h1){L:SV}(sL:bj cC h1 L.v l)(nL:∀c,bt L.v c->c≠nb)(hN:dg h1 nb (ja.flat ff))(nl:ff.length=aB)(hv:∀v∈l,Dc aB v)(hl:l.length<1000000)(f5:bH e 5=.slice (some ⟨nb,0,none⟩) aB aB)(f6:bH e 6=.bool more0)(f9:bH e 9=L.v)(Y:bJ e 12 0)(C:∀I h' need dE,aM al2 e I->bH I 6=.bool dE->ay (· =nb) h1 h'->(dg h' nb (ja.flat need))->MkR ff more0 l need dE->QQ (.exit 8) I h'):aO FF (.loop kr) e h1 QQ:=by
 have jt:L.l=l.length:=by obtain⟨a,cap,e,_⟩:=id sL;simp at e;exact e.2.1
 refine aO.loop (arZ h1 nb ff more0 l e) ?_ (n:=l.length) ⟨0,ff,more0,rfl,ab,aM.refl _ _,f6,Y,.refl gi,hN,by rw[List.take_zero];exact .nil⟩;rintro m I h'⟨j,need,dE,rfl,hj,K,W,w,g,⟨sN,q⟩,M⟩;have bS:=g.ok;have q5:=K.at f5;have d:=K.at f9;unfold kr;by_cases o:j<l.length
 .have N:=cg ((j:Int)+1) ab ab;obtain⟨v,Z⟩:=aV l j o;have Q:=hv v (cN Z);obtain⟨bL,axh,capL,s,_,_,cZ⟩:=(Eo sL gi g fun _ b hb=>nL b hb).read Z;have D:=cZ 0 1 ag;have J:=cZ 1 1 ag;simp[-ax] at D J s;simp at d;rw[s.1,jt] at d;have V:l.take (j+1)=l.take j++[v]:=by rw[lg,Z];rfl
  obtain⟨v1,v2⟩:=v;cases v1 with
  |false=>
   simp[d,w,o,D,N,-ax];refine⟨l.length-(j+1),ab,j+1,need,dE,rfl,o,?_,au W,ae,g,⟨sN,q⟩,by rw[V];exact M.one nofun⟩
   exact aq
  |true=>
   obtain⟨k1,k2⟩:=Q rfl;dsimp only at k1 k2;obtain⟨n,rfl⟩:∃n:Nat,v2=n:=⟨v2.toNat,ab⟩;have C0:n<aB:=ab
   have nl':=M.nl.trans nl;obtain⟨t,O⟩:=aV need n;have rt:=rI q O;cases t with
   |true=>
    simp[q5,d,w,o,D,J,C0,rt,N,-ax];refine⟨l.length-(j+1),ab,j+1,need,dE,rfl,o,?_,au W,ae,g,⟨sN,q⟩,by rw[V];exact M.one fun _=>aj O⟩
    exact aq
   |false=>
    have dQ:n+1<=need.length:=ab
    simp[q5,d,w,o,D,J,C0,rt,q,dQ,N,-ax];have gp:=aY (off:=n) (vs:=[.bool true]) bS q;refine⟨l.length-(j+1),ab,j+1,need.set n true,true,rfl,o,?_,ae,ae,g.trans gp,⟨h'.clock,by rw[aP,JW need n true ab]⟩,by rw[V];exact M.put rfl (aj O)⟩
    exact aq
 .have:j=l.length:=ab
  subst this;rw[jT] at M;simp at d;rw[jt] at d;simp[d,w];refine C _ _ need dE ?_ (au W) g ⟨sN,q⟩ M
  exact aq
structure aaD(aI:Int)(aB:Nat)(bs:List GB):Prop where
 E:EB bs
 U:Ls bs
 I:∀b∈bs,FN aI aB b
 T:vg aB bs
 b:∀b∈bs,b.bD.length<=300/\b.list.length<=300/\(∀x∈b.list,x.args.length<=100)/\∀p∈b.bD,p.row.length<=100
 u:∀b∈bs,∀x∈b.list,∀v∈gW x,Dc aB v
def ae2(D:aaD aI aB bs)(d:b∈bs)(need:List Bool):∀v∈TA aI need b,Dc aB v:=fun v c=>by rcases jS.1 c with c|c;rcases jS.1 c with c|c;cases List.mem_singleton.1 c;exact D.T.on b d;obtain⟨x,j,c⟩:=List.mem_flatMap.1 c;unfold yw at c;split at c;cases c;exact D.u b d x j v c;obtain⟨q,m,c⟩:=List.mem_flatMap.1 c;unfold Bn at c;split at c;cases c;exact((D.T.ph b d).2 q m).2.2 v c
def aeE:List Nat:=(List.range 7).map (· +6)++(List.range 104).map (· +23)
def ar1(h1:az)(nb:Nat)(aI:Int)(ff:List Bool)(bs:List GB)(e:Env)(m:Nat)(e':Env)(h':az):Prop:=
 ∃(j:Nat) (need:List Bool) (dE:Bool),m=bs.length-j/\j<=bs.length/\aM aeE e e'/\bH e' 6=.bool dE/\bJ e' 7 j/\ay (· =nb) h1 h'/\(dg h' nb (ja.flat need))/\RdR aI bs ff j need dE
def RD(dt:cr h0)(gi:cr h1)(g0a:∀ {h'},ay (· =nb) h1 h'->ay aZ h0 h')(hB:qg h0 B bs)(D:aaD aI aB bs)(hF:fC h1 F (aC name p aB B) sF)(nF:F≠nb)(hN:dg h1 nb (ja.flat ff))(nl:ff.length=aB)(f0:bJ e 0 aI)(f3:cm e 3 F)(f5:bH e 5=.slice (some ⟨nb,0,none⟩) aB aB)(f6:bH e 6=.bool false)(f7:bJ e 7 0)(C:∀Y h' need dE,aM aeE e Y->bH Y 6=.bool dE->ay (· =nb) h1 h'->(dg h' nb (ja.flat need))->RdR aI bs ff bs.length need dE->QQ (.exit 2) Y h'):aO FF (.loop kv) e h1 QQ:=by
 have dT:=aD.len hB;have LY:=D.E.n50;refine aO.loop (ar1 h1 nb aI ff bs e) ?_ (n:=bs.length) ⟨0,ff,false,rfl,ab,aM.refl _ _,f6,f7,.refl gi,hN,.zero⟩;rintro m Y h'⟨j,need,dE,rfl,hj,K,q6,q7,g,⟨sN,Oa⟩,M⟩;have bS:=g.ok;have gg:=g0a g;have q0:=K.at f0;have q3:=K.at f3;have q5:=K.at f5;have o:=g.get gi hF nF;simp[aC] at o;rw[dT] at o;unfold kv;by_cases bk:j<bs.length
 .have wj:=cg ((j:Int)+1) ab ab;obtain⟨b,Z⟩:=aV bs j bk;have N:=cN Z;obtain⟨b1,b2,b3,b4⟩:=D.b b N;obtain⟨bB,YO,cB,fp,_,_,⟨P,I,T,rfl,sP,sI,sT⟩,oB,cZ⟩:=aD.later dt hB Z;have r0:=cZ h' gg 0 6 ag;simp[-ax] at r0;rw[fp] at o;have d:=M.nl.trans nl;have lN:=bS.wf _ _ Oa;simp[q3,q7,o,aF o,bk,r0,aH,-ax];have gv:ay aZ h' (put (aK h' [.slice none 0 0,.slice none 0 0,.int .i64 0,.bool false,.int .i64 0,.slice none 0 0] 0) h'.aw 0 [.slice none 0 0,.slice none 0 0,.int .i64 0,.bool false,.int .i64 0,.slice none 0 0] [P.v,I.v,.int .i64 b.kind,.bool b.on.1,.int .i64 b.on.2,T.v] 0):=(ay.refl bS).var _ _;refine aO.cut (fun h3=>∃s,ay aZ h' s/\h'.aw<s.aw/\(dg s h'.aw (P.v::I.v::[.int .i64 b.kind,.bool b.on.1,.int .i64 b.on.2,T.v]))/\ay aZ s h3/\s.aw=h'.aw+1/\dg h3 (h'.aw+1) (cC.enc b.on)) ?_ ?_
  refine⟨_,gv,ae,⟨h'.clock,by simp[bg]⟩,(ay.refl gv.ok).new _ _,ae,⟨0,ae⟩⟩;rintro h3⟨s,O,l2,⟨sX,hX⟩,g3,n2,hV⟩;have Qy:=O.get bS Oa;rw[<-n2] at hV;refine U5 dt (gg.trans O) g3 (aI:=aI) (L0:=⟨some ⟨s.aw,0,none⟩,1,1⟩) sI hX Qy d (aaW hV) ae b2 (fun x hx=>⟨b3 x hx,(D.I b N).xd x hx⟩) (D.I b N).q (au q0) (au q5) ae (au n2) ae ?_;intro V h4 L4 w p9 g4 uW;have Q:bH V 5=.slice (some ⟨nb,0,none⟩) aB aB:=w.at (ak q5);have k6:bH V 6=.bool dE:=w.at (ak q6);have J:bH V 7=.int .i64 j:=w.at (ak q7);have k8:cm V 8 h'.aw:=w.at ae;simp;have ll:([b.on]++b.list.flatMap (yw aI need)).length<=50000:=by
   have:=zB (f:=yw aI need) (k:=102) (xs:=b.list) fun y hy=>by
    have:=xD y;have:=b3 y hy;unfold yw;split
    simp;omega
   have:b.list.length*102<=300*102:=CX _ b2;rw[LV,List.length_singleton];omega
  have lp:(TA aI need b).length<1000000:=by
   have:=zB (f:=Bn need) (k:=100) (xs:=b.bD) fun y hy=>by have:=b4 y hy;unfold Bn;split;simp;omega
   have:b.bD.length*100<=300*100:=CX _ b1;unfold TA;rw[LV];omega
  refine U7 dt (gg.trans O) g4 sP hX Qy d uW ll b1 (fun q hq=>⟨b4 q hq,(D.I b N).pd q hq⟩) (au Q) (au k8) (au p9) ae ?_;intro e5 h5 L5 W p9 g5 qq;have Q:bH e5 5=.slice (some ⟨nb,0,none⟩) aB aB:=W.at (ak Q);have k6:bH e5 6=.bool dE:=W.at (ak k6);have J:bH e5 7=.int .i64 j:=W.at (ak J);simp;have hN5:=g5.get O.ok Qy;refine U6 g5.ok (more0:=dE) qq.sl (fun c hc e=>av (qq.of hc)) ⟨_,hN5⟩ d (ae2 D N need) lp (au Q) (au k6) (au p9) ae ?_;intro e6 h6 apm apj K6 p6 g6 hN6 M6;have J:bH e6 7=.int .i64 j:=K6.at (ak J);simp[J,wj];refine⟨bs.length-(j+1),ab,j+1,apm,apj,rfl,bk,?_,au p6,ae,((g.trans O.ck).trans g5.ck).trans g6,hN6,M.step D.U D.I Z M6⟩
  repeat (refine aM.set ?_)
  refine aM.trans ?_ (K6.cY)
  repeat (refine aM.set ?_)
  refine aM.trans ?_ (W.cY)
  repeat (refine aM.set ?_)
  refine aM.trans ?_ (w.cY)
  exact aq
 .have:j=bs.length:=ab
  subst this;simp[q3,q7,o,aF o,-ax];refine C _ _ need dE ?_ (au q6) g ⟨sN,Oa⟩ M
  exact aq
def ar2(h1:az)(nb aB:Nat)(aI:Int)(bs:List GB)(e:Env)(m:Nat)(e':Env)(h':az):Prop:=
 ∃(need:List Bool) (dE:Bool),m=2*jb need+dE.toNat/\aM aeE e e'/\bH e' 6=.bool dE/\ay (· =nb) h1 h'/\(dg h' nb (ja.flat need))/\need.length=aB/\amk aI bs need/\(dE=false->tD aI bs aB need)
def OG(dt:cr h0)(Q:cr h1)(j:∀ {h'},ay (· =nb) h1 h'->ay aZ h0 h')(hB:qg h0 B bs)(D:aaD aI aB bs)(hF:fC h1 F (aC name p aB B) sF)(J:F≠nb)(hN:dg h1 nb (ja.flat (List.replicate aB false)))(f0:bJ e 0 aI)(f3:cm e 3 F)(f5:bH e 5=.slice (some ⟨nb,0,none⟩) aB aB)(f6:bH e 6=.bool true)(C:∀q h' need,aM aeE e q->ay (· =nb) h1 h'->(dg h' nb (ja.flat need))->tD aI bs aB need->QQ (.exit 0) q h'):aO FF (.loop kx) e h1 QQ:=by
 refine aO.loop (ar2 h1 nb aB aI bs e) ?_ (n:=2*jb (List.replicate aB false)+1) ⟨List.replicate aB false,true,rfl,aM.refl _ _,f6,.refl Q,hN,ae,fun P _ n h=>(by cases(List.mem_replicate.1 (cN h)).2),nofun⟩;rintro m q h'⟨need,dE,rfl,K,I,g,⟨sN,N⟩,s,w,o⟩;have V:=K.at f0;have q3:=K.at f3;have q5:=K.at f5;unfold kx;cases dE with
 |true=>
  simp[I];refine RD dt g.ok (fun gx=>j (g.trans gx)) hB D (g.get Q hF J) J ⟨sN,N⟩ s (au V) (au q3) (au q5) ae ae ?_;intro e2 h2 d O Z W g2 Y M;simp;refine⟨2*jb d+O.toNat,?_,d,O,rfl,?_,au W,g.trans g2,Y,M.nl.trans s,fun P c n hn=>M.snd P c (w P c) n hn,fun h=>by subst h;exact M.done D.U s w⟩;rcases M.ch with⟨rfl,rfl,_⟩|⟨rfl,h⟩<;>simp<;>omega
  .refine aM.trans ?_ Z
   exact aq
 |false=>
  simp[I];refine C _ _ need ?_ g ⟨sN,N⟩ (o rfl)
  exact aq
structure GW(h:az)(n0 G nb aB i:Nat)(name:ByteArray)(p r:Int)(need:List Bool)(B:SV)(ys:List YB)(y:YB):Prop where
 W:FZ h n0 B ys
 hy:ys[i]?=some y
 hG:dg h G (aC name p r B)
 hN:dg h nb (ja.flat need)
 nl:need.length=aB
def GW.ck{h h':az}{n0 G nb aB i:Nat}{name:ByteArray}{p r:Int}{need:List Bool}{B:SV}{ys:List YB}{y:YB}(w:GW h n0 G nb aB i name p r need B ys y)(c:cr h)(g:ay aZ h h'):GW h' n0 G nb aB i name p r need B ys y:=by obtain⟨s,d⟩:=w.hG;obtain⟨t,j⟩:=w.hN;exact⟨w.W.ck c g,w.hy,⟨s,g.get c d fun h=>h⟩,⟨t,g.get c j fun h=>h⟩,w.nl⟩
section
variable{hA:az}{n0 G nb aB i:Nat}{name:ByteArray}{p r:Int}{need:List Bool}{B:SV}{ys:List YB}{y:YB}
def Wd{α:Type}{f:α->Bool}{xs:List α}{j:Nat}{x:α}(h:xs[j]?=some x):(xs.take (j+1)).filter f=(xs.take j).filter f++if f x then [x] else []:=by rw[lg,h,List.filter_append];congr 1;show [x].filter f=_;by_cases e:f x<;>simp[e]
def ami:List Nat:=[15,16]++(List.range 36).map (· +136)
def asS(hA:az)(need:List Bool)(y:YB)(e:Env)(m:Nat)(e':Env)(h':az):Prop:=
 ∃(j:Nat) (L:SV),m=y.ps.length-j/\j<=y.ps.length/\aM ami e e'/\bH e' 15=L.v/\bJ e' 16 j/\ay aZ hA h'/\bu iG hA.aw h' L.v ((y.ps.take j).filter fun q=> !eJ need q.1)
def RC(vG:cr hA)(w:GW hA n0 G nb aB i name p r need B ys y)(wg:y.ps.length<=300)(hd:∀q∈y.ps,0<=q.1.dst/\q.1.dst<aB)(f5:bH e 5=.slice (some ⟨nb,0,none⟩) aB aB)(f13:cm e 13 G)(V:bJ e 14 i)(f15:bH e 15=cK.v)(Z:bJ e 16 0)(C:∀J h' (L:SV),aM ami e J->bH J 15=L.v->ay aZ hA h'->bu iG hA.aw h' L.v (y.ps.filter fun q=> !eJ need q.1)->QQ (.exit 12) J h'):aO FF (.loop ko) e hA QQ:=by
 refine aO.loop (asS hA need y e) ?_ (n:=y.ps.length) ⟨0,cK,rfl,ab,aM.refl _ _,f15,Z,.refl vG,.inl ⟨rfl,rfl⟩⟩;rintro m J h'⟨j,L,rfl,hj,K,yV,N,g,d⟩;have bS:=g.ok;have q5:=K.at f5;have Hd:=K.at f13;have Q:=K.at V;obtain⟨W,hy,⟨sG,s⟩,⟨sN,hN⟩,nl⟩:=w.ck vG g;have Y:=W.at hy;obtain⟨bB,cs,oB,sB,fp,Gg,hiB,dQ,cZ,_⟩:=W.A.el hy;have D:=cZ 0 1 ag;have dT:=W.A.len;have gY:=Y.P.len;have gh:=(di.mp hy).1;simp[-ax] at D;rw[gY] at D;simp[aC] at s;rw[fp,dT] at s;unfold ko;by_cases I:j<y.ps.length
 .have wj:=cg ((j:Int)+1) ab ab;obtain⟨q,hq⟩:=aV y.ps j I;obtain⟨d1,d2⟩:=hd q (cN hq);obtain⟨n,hn⟩:∃n:Nat,q.1.dst=n:=⟨q.1.dst.toNat,ab⟩;have C0:n<aB:=ab
  obtain⟨t,O⟩:=aV need n;have rt:=rI hN O;obtain⟨bP,cP,oP,sP,kB,DN,hjP,abZ,Ul,_⟩:=Y.P.el hq;have o:=Ul 0 1 ag;have rP:=Ul 0 2 ag;simp[-ax] at o rP;rw[hn] at o;rw[kB] at D;have tk:=Wd (f:=fun q:GP×SV=> !eJ need q.1) hq;have al:=EW (fun q:GP×SV=> !eJ need q.1) (y.ps.take j);have tl:(y.ps.take j).length<=j:=by simp;omega
  have gn:=g.aw;cases t with
  |false=>
   have hu:(!eJ need q.1)=false:=by simp[eJ,oe,hn,O]
   simp[q5,Hd,Q,N,s,aF s,gh,I,D,o,C0,rt,wj,-ax];refine⟨y.ps.length-(j+1),ab,j+1,L,rfl,I,?_,au yV,ae,g,by rw[tk,hu];simpa using d⟩
   exact aq
  |true=>
   have hu:(!eJ need q.1)=true:=by simp[eJ,oe,hn,O]
   simp[q5,Hd,Q,yV,N,s,aF s,gh,I,D,o,rP,C0,rt,-ax];have g2:=aN bS (iG.enc q) 0;have gK:=d.grow bS g2 ai;have zK:bj iG (aK h' (iG.enc q) 0) (.slice (some ⟨h'.aw,0,none⟩) 1 1) [q]:=dz (bz _ _ _);have n2:(aK h' (iG.enc q) 0).aw=h'.aw+1:=rfl;obtain⟨v',h3,ha,fM,g3,_⟩:=fx (bytes:=32) g2.ok (z:=[.int .i64 0,.slice none 0 0]) rfl gK zK ab ag ab;obtain⟨L',rfl⟩:=bu.C5 fM;refine cR (aj ha) ?_;simp[N,wj];refine⟨y.ps.length-(j+1),ab,j+1,L',rfl,I,?_,ae,ae,(g.trans g2).trans' g3 ai (fun c hc e=>av (d.of e)),by rw[tk,hu];exact fM⟩
   exact aq
 .have:j=y.ps.length:=ab
  subst this;rw[jT] at d;simp[Hd,Q,N,s,aF s,gh,D,-ax];refine C _ _ L ?_ (au yV) g d
  exact aq
def amh:List Nat:=[17,18,19]++(List.range 35).map (· +172)
def asR(hA:az)(aI:Int)(need:List Bool)(y:YB)(e:Env)(m:Nat)(e':Env)(h':az):Prop:=
 ∃(j:Nat) (L:SV),m=y.ls.length-j/\j<=y.ls.length/\aM amh e e'/\bH e' 17=L.v/\bJ e' 18 j/\ay aZ hA h'/\bu gu hA.aw h' L.v ((y.ls.take j).filter fun x=> !eW aI need x.1)
def RB(vG:cr hA)(w:GW hA n0 G nb aB i name p r need B ys y)(Ki:y.ls.length<=300)(hd:∀x∈y.ls,x.1.dst<aB)(hq:∀x∈y.ls,lq aI x.1=true->0<=x.1.dst)(f0:bJ e 0 aI)(f5:bH e 5=.slice (some ⟨nb,0,none⟩) aB aB)(f13:cm e 13 G)(f14:bJ e 14 i)(f17:bH e 17=cK.v)(f18:bJ e 18 0)(C:∀e' h' (L:SV),aM amh e e'->bH e' 17=L.v->ay aZ hA h'->bu gu hA.aw h' L.v (y.ls.filter fun x=> !eW aI need x.1)->QQ (.exit 14) e' h'):aO FF (.loop km) e hA QQ:=by
 refine aO.loop (asR hA aI need y e) ?_ (n:=y.ls.length) ⟨0,cK,rfl,ab,aM.refl _ _,f17,f18,.refl vG,.inl ⟨rfl,rfl⟩⟩;rintro m e' h'⟨j,L,rfl,hj,K,s,d,g,D⟩;have bS:=g.ok;have q0:=K.at f0;have q5:=K.at f5;have Hd:=K.at f13;have xy:=K.at f14;obtain⟨W,hy,⟨sG,O⟩,⟨sN,hN⟩,nl⟩:=w.ck vG g;have Y:=W.at hy;obtain⟨bB,cs,oB,sB,fp,Gg,hiB,dQ,cZ,_⟩:=W.A.el hy;have r1:=cZ 1 1 ag;have dT:=W.A.len;have jt:=Y.L.len;have gh:=(di.mp hy).1;simp[-ax] at r1;rw[jt] at r1;simp[aC] at O;rw[fp,dT] at O;unfold km;by_cases bk:j<y.ls.length
 .have wj:=cg ((j:Int)+1) ab ab;obtain⟨x,hx⟩:=aV y.ls j bk;have Kl:=cN hx;obtain⟨bL,cL,oL,sL,SM,hLb,hjL,azu,hrL,_⟩:=Y.L.el hx;have rL:=hrL 0 8 ag;simp[-ax] at rL;rw[SM] at r1;have tk:=Wd (f:=fun x:GI×SV=> !eW aI need x.1) hx;have al:=EW (fun x:GI×SV=> !eW aI need x.1) (y.ls.take j);have tl:(y.ls.take j).length<=j:=by simp;omega
  have gn:=g.aw;simp[q0,Hd,xy,d,O,aF O,gh,bk,r1,rL,aH,-ax];refine bm.cut (fun h2=>ay aZ h' h2/\dg h2 h'.aw (aJ x.1.op x.1.dst x.1.a.1 x.1.a.2 x.1.b.1 x.1.b.2 x.1.fn x.2.v)) ⟨(ay.refl bS).var _ _,h'.clock,by simp[bg,aJ]⟩ ?_;rintro h2⟨g2,sX,hX⟩;refine bm.call (V:=fun v J=>v=.bool (dW aI x.1.op x.1.a.1 x.1.a.2 x.1.b.1 x.1.b.2)/\ay aZ h2 J) (by simpa [aJ] using Gz h2 g2.ok aI x.1.op x.1.dst x.1.a.2 x.1.b.2 x.1.fn x.1.a.1 x.1.b.1 x.2.a x.2.l x.2.c) ?_;rintro _ J⟨rfl,g3⟩;have o:=g2.trans g3;have fM:=D.grow bS o ai;have q:=g3.get g2.ok hX;have hN3:=o.get bS hN;simp[aJ] at q;have hc:(lq aI x.1=true/\∃n:Nat,x.1.dst=n/\n<aB/\need[n]?=some false/\(!eW aI need x.1)=false)\/(lq aI x.1=false/\(!eW aI need x.1)=true)\/(lq aI x.1=true/\∃n:Nat,x.1.dst=n/\n<aB/\need[n]?=some true/\(!eW aI need x.1)=true):=by
   unfold eW;cases hk:lq aI x.1 with
   |false=>exact .inr (.inl ⟨rfl,ae⟩)
   |true=>
    obtain⟨n,N⟩:∃n:Nat,x.1.dst=n:=⟨x.1.dst.toNat,av (hq x Kl hk)⟩;have Z:n<aB:=av (hd x Kl)
    obtain⟨t,I⟩:=aV need n;cases t with
    |false=>exact .inl ⟨rfl,n,N,Z,I,by simp[oe,N,I]⟩
    |true=>exact .inr (.inr ⟨rfl,n,N,Z,I,by simp[oe,N,I]⟩)
  have hx1:gu.enc x=[.int .i64 x.1.op,.int .i64 x.1.dst,.bool x.1.a.1,.int .i64 x.1.a.2,.bool x.1.b.1,.int .i64 x.1.b.2,.int .i64 x.1.fn,.slice x.2.a x.2.l x.2.c]:=ae
  have l3:=o.aw;obtain⟨L5,Q,ha,qq,g5⟩:∃(L5:SV) (Q:az),fS (aK J (gu.enc x) 0) [.int .i64 0,.int .i64 0,.bool false,.int .i64 0,.bool false,.int .i64 0,.int .i64 0,.slice none 0 0] 80 false L.v (.slice (some ⟨J.aw,0,none⟩) 1 1)=some (L5.v,Q)/\bu gu hA.aw Q L5.v ((y.ls.take j).filter (fun x=> !eW aI need x.1)++[x])/\ay aZ hA Q:=by have g4:=aN g3.ok (gu.enc x) 0;have zK:bj gu (aK J (gu.enc x) 0) (.slice (some ⟨J.aw,0,none⟩) 1 1) [x]:=dz (bz _ _ _);have n2:(aK J (gu.enc x) 0).aw=J.aw+1:=rfl;obtain⟨v',Q,ha,qq,g5,_⟩:=fx (bytes:=80) g4.ok (z:=[.int .i64 0,.int .i64 0,.bool false,.int .i64 0,.bool false,.int .i64 0,.int .i64 0,.slice none 0 0]) rfl (fM.grow g3.ok g4 ai) zK ab ag ab;obtain⟨L',rfl⟩:=bu.C5 qq;exact⟨L',Q,ha,qq,((g.trans o).trans g4).trans' g5 ai (fun c hc e=>av (D.of e))⟩
  rw[hx1] at ha;rcases hc with⟨ue,n,N,Z,I,hu⟩|⟨ue,hu⟩|⟨ue,n,N,Z,I,hu⟩
  .have rt:=rI hN3 I;rw[N] at q;simp[show dW aI x.1.op x.1.a.1 x.1.a.2 x.1.b.1 x.1.b.2=true from ue,q5,d,q,aF q,Z,rt,wj,-ax];refine⟨y.ls.length-(j+1),ab,j+1,L,rfl,bk,?_,au s,ae,g.trans o,by rw[tk,hu];simpa using fM⟩
   exact aq
  .simp[show dW aI x.1.op x.1.a.1 x.1.a.2 x.1.b.1 x.1.b.2=false from ue,s,q,aF q,-ax];refine cR (aj ha) ?_;simp[d,wj];refine⟨y.ls.length-(j+1),ab,j+1,L5,rfl,bk,?_,ae,ae,g5,by rw[tk,hu];exact qq⟩
   exact aq
  .have rt:=rI hN3 I;rw[N] at q ha;simp[show dW aI x.1.op x.1.a.1 x.1.a.2 x.1.b.1 x.1.b.2=true from ue,q5,s,q,aF q,Z,rt,-ax];refine cR (aj ha) ?_;simp[d,wj];refine⟨y.ls.length-(j+1),ab,j+1,L5,rfl,bk,?_,ae,ae,g5,by rw[tk,hu];exact qq⟩
   exact aq
 .have:j=y.ls.length:=ab
  subst this;rw[jT] at D;simp[Hd,xy,d,O,aF O,gh,r1,-ax];refine C _ _ L ?_ (au s) g D
  exact aq
end
def cM.Nj{h0 h h':az}{n0 i M:Nat}{B0 B:SV}{W ys:List YB}{y:YB}{N L':SV}(f:GP×SV->Bool)(J:GI×SV->Bool)(T:cM h0 h n0 B0 W B ys)(hn:n0<=h0.aw)(Q:ys[i]?=some y)(g:ay (fun c=>eR B=some c) h h')(hB:eo dZ h' B (ys.set i {y with P:=N,ps:=y.ps.filter f,L:=L',ls:=y.ls.filter J}))(hP:eo iG h' N (y.ps.filter f))(hL:eo gu h' L' (y.ls.filter J))(nP:∀c,eR N=some c->h.aw<=c/\c<M)(nL:∀c,eR L'=some c->h.aw<=c/\M<=c):cM h0 h' n0 B0 W B (ys.set i {y with P:=N,ps:=y.ps.filter f,L:=L',ls:=y.ls.filter J}):=by
 obtain⟨φ,φi,φe⟩:=abm f y.ps;obtain⟨ψ,ψi,ψe⟩:=abm J y.ls;have m:=T.g.ok;have Y:=T.w.at Q;have ln:=T.g.aw;have no:∀c l,eR B=some c->y.loc l≠some c:=fun c l d e=>by have:=T.w.tf none (some (i,l)) c d (by rw[cz Q];exact e);cases this
 have key:∀l c,({y with P:=N,ps:=y.ps.filter f,L:=L',ls:=y.ls.filter J} :YB).loc l=some c->y.loc ((l.mR φ).mX ψ)=some c\/(l=.P/\h.aw<=c/\c<M)\/(l=.L/\h.aw<=c/\M<=c):=fun l c e=>by
  cases l with
  |P=>exact .inr (.inl ⟨rfl,nP c e⟩)
  |L=>exact .inr (.inr ⟨rfl,nL c e⟩)
  |T=>exact .inl e
  |R j=>
   obtain⟨q,h1,D⟩:=Ev.1 e;have:=φe j (di.mp h1).1;exact .inl (Ev.2 ⟨q,by rw[<-this];exact h1,D⟩)
  |X j=>
   obtain⟨q,h1,D⟩:=Ev.1 e;have:=ψe j (di.mp h1).1;exact .inl (Ev.2 ⟨q,by rw[<-this];exact h1,D⟩)
 have V:∀l:Lo,((l.mR φ).mX ψ).x↔l.x:=fun l=>by cases l<;>exact Iff.rfl
 refine T.step g (fun c d=>.inl ⟨none,d⟩) (T.w.tz m g ab Q (fun c d o ho=>.inl (T.w.tf none o c d ho).symm) hB ⟨hP,hL,Y.T.go m g fun c d=>no c .T d,fun q I=>?_,fun q I=>?_⟩ (fun p inj a b c h1 D=>?_) fun l c e=>?_);obtain⟨k,O⟩:=iI (Ai.1 I).1;exact(Y.ps q (Ai.1 I).1).go m g fun c d=>by rw[<-YB.jN O];exact no c (.R k) d
 obtain⟨k,O⟩:=iI (Ai.1 I).1;exact(Y.ls q (Ai.1 I).1).go m g fun c d=>by rw[<-YB.mm O];exact no c (.X k) d
 rcases key a c h1 with s|⟨s,k2,k3⟩|⟨s,k2,k3⟩<;>rcases key b c D with w|⟨w,Z,m3⟩|⟨w,Z,m3⟩;exact(inj _ _ c s w).imp (fun e=>Lo.aph φi a b (Lo.api ψi _ _ e)) fun⟨e1,e2,e3⟩=>⟨e1,(V a).1 e2,(V b).1 e3⟩;have:=Y.lt m s;omega;have:=Y.lt m s;omega;have:=Y.lt m w;omega;exact .inl (s.trans w.symm);omega;have:=Y.lt m w;omega;omega;exact .inl (s.trans w.symm)
 rcases key l c e with k|k|k;exact .inl ⟨_,k,(V l).1⟩;exact .inr k.2.1;exact .inr k.2.1
def Vq{a b:Value}(h:k+1+1<=cs.length):bg (bg cs k [a]) (k+1) [b]=bg cs k [a,b]:=by have m:(bg cs k [a]).length=cs.length:=qo (by simp;omega);refine Cy fun j=>?_;rw[iz (by simp;omega),iz (by simp;omega),iz (by simp;omega)];by_cases c:j=k;subst c;simp;omega;by_cases d:j=k+1;subst d;simp;rw[bU (by simp;omega),bU (by simp;omega),bU (by simp;omega)]
def amj:List Nat:=(List.range 5).map (· +14)++[19]++(List.range 90).map (· +129)
def asT(c:az)(n0:Nat)(B:SV)(ys:List YB)(aI:Int)(need:List Bool)(e:Env)(m:Nat)(e':Env)(h':az):Prop:=
 ∃(j:Nat) (zs:List YB),m=ys.length-j/\j<=ys.length/\aM amj e e'/\bJ e' 14 j/\cM c h' n0 B ys B zs/\zs.length=ys.length/\∀(i:Nat)(y z:YB),ys[i]?=some y->zs[i]?=some z->(i<j->z.g=oy aI need y.g)/\(j<=i->z=y)
def OH{Y:az}(J:cr Y){n0 G nb aB sG sN:Nat}{ys:List YB}(hn:n0<=Y.aw)(W:FZ Y n0 B ys)(yU:ys.length<1000)(D:∀y∈ys,FN aI aB y.g/\y.ps.length<=300/\y.ls.length<=300)(hG:fC Y G (aC name p r B) sG)(oG:¬cx B ys G)(hN:fC Y nb (ja.flat need) sN)(oN:¬cx B ys nb)(nl:need.length=aB)(f0:bJ e 0 aI)(f5:bH e 5=.slice (some ⟨nb,0,none⟩) aB aB)(f13:cm e 13 G)(f14:bJ e 14 0)(C:∀e' h' zs,aM amj e e'->cM Y h' n0 B ys B zs->zs.map YB.g=eG aI need (ys.map YB.g)->QQ (.exit 10) e' h'):aO FF (.loop kq) e Y QQ:=by
 have dT:=W.A.len;refine aO.loop (asT Y n0 B ys aI need e) ?_ (n:=ys.length) ⟨0,ys,rfl,ab,aM.refl _ _,f14,.refl W J,rfl,fun i r r' h1 O=>⟨fun h=>ab,fun _=>by rw[h1] at O;cases O;rfl⟩⟩;rintro m e' h'⟨j,zs,rfl,hj,K,xy,T,pA,H⟩;have g:=T.g;have bS:=g.ok;have q0:=K.at f0;have q5:=K.at f5;have Hd:=K.at f13;have SL:=g.get J hG oG;have Oa:=g.get J hN oN;have ln:=g.aw;have lG:=J.wf _ _ hG;have lN:=J.wf _ _ hN;have oG':¬cx B zs G:=fun e=>(T.s _ e).elim oG ab;have oN':¬cx B zs nb:=fun e=>(T.s _ e).elim oN ab;have Cz:=T.w.A.len;have Wi:=SL;simp[aC] at Wi;rw[Cz,pA] at Wi;unfold kq;by_cases bk:j<ys.length
 .have wj:=cg ((j:Int)+1) ab ab;obtain⟨y0,u9⟩:=aV ys j bk;obtain⟨y,hy⟩:=aV zs j;have e1:=(H j y0 y u9 hy).2 (fh _);subst e1;obtain⟨I,pl,ll⟩:=D y (cN u9);have w':GW h' n0 G nb aB j name p r need B zs y:=⟨T.w,hy,⟨_,SL⟩,⟨_,Oa⟩,nl⟩;simp[Hd,xy,Wi,bk];refine RC bS w' pl (fun q hq=>I.pd q.1 (EX hq)) (au q5) (au Hd) (au xy) (by simp[cK]) ae ?_;intro e2 O d K2 p15 g2 V;have k0:bH e2 0=.int .i64 aI:=K2.at (ak q0);have k5:bH e2 5=.slice (some ⟨nb,0,none⟩) aB aB:=K2.at (ak q5);have k13:cm e2 13 G:=K2.at (ak Hd);have k14:bH e2 14=.int .i64 j:=K2.at (ak xy);simp;refine RB g2.ok (w'.ck bS g2) ll (fun x hx=>I.xd x.1 (EX hx)) (fun x hx=>I.q x.1 (EX hx)) (au k0) (au k5) (au k13) (au k14) (by simp[cK]) ae ?_;intro e3 h3 N K3 p17 g3 fM;have m13:cm e3 13 G:=K3.at (ak k13);have m14:bH e3 14=.int .i64 j:=K3.at (ak k14);have m15:bH e3 15=d.v:=K3.at (ak p15);have o:=g2.trans g3;have T3:=T.ck o;have ams:=V.grow g2.ok g3 ai;have Q:=o.get bS Wi;obtain⟨w,cs,oB,sB,fp,Gg,hjB,dQ,cZ,fu⟩:=T3.w.A.el hy;have PK:=cy fp;rw[fp] at Q;have nGB:G≠w:=fun e=>oG' ⟨none,by rw[e];exact PK⟩;have Wl:=dQ 0 1 ag;have wa:=dQ 1 1 ag;simp at Wl wa;have lB:=o.ok.wf _ _ Gg;have hsp:(bg cs (j*6) [d.v]).length=cs.length:=qo (by simp;omega);have au9:j*6+1+1<=(bg cs (j*6) [.slice d.a d.l d.c]).length:=by simp at hsp;omega
  have s:ay (· =w) h3 (put h3 w (j*6) cs [.slice d.a d.l d.c] oB):=aY o.ok Gg;have at2:(put h3 w (j*6) cs [.slice d.a d.l d.c] oB).tr.get w=some (.bZ (bg cs (j*6) [.slice d.a d.l d.c]) false oB h3.clock):=aP _ _ _ _ _ _;have hG4:=s.get o.ok Q nGB;have nBG:¬w=G:=fun e=>nGB e.symm;simp[m13,m14,m15,p17,Q,aF Q,cH,bk,Gg,Wl,nGB,nBG,au9,wj,-ax];have gw2:=aY (off:=j*6+1) (vs:=[Value.slice N.a N.l N.c]) s.ok at2;have A4:=fu {y with P:=d,ps:=y.ps.filter (fun q=> !eJ need q.1),L:=N,ls:=y.ls.filter fun x=> !eW aI need x.1} 0 [d.v,N.v] ae rfl (put (put h3 w (j*6) cs [.slice d.a d.l d.c] oB) w (j*6+1) (bg cs (j*6) [.slice d.a d.l d.c]) [.slice N.a N.l N.c] oB) ⟨h3.clock+1,by rw[aP];simp[Vq (aj wa)]⟩;have l2:=g2.aw;have l3:=g3.aw;have ng:∀c,c=w->eR B=some c:=fun c e=>by rw[e];exact PK
  have lo:∀ {A:SV} {c:Nat},h'.aw<=c->c≠w:=fun h e=>av (T.w.lt bS (l:=none) (show eR B=some w from PK))
  have T5:=T.Nj (M:=O.aw) (fun q=> !eJ need q.1) (fun x=> !eW aI need x.1) hn hy ((o.ck.trans ((s.trans gw2).cY fun c _ e=>ng c e))) A4 (((dI ams).go o.ok s fun c Z e=>lo (A:=d) (V.of (iE (dI V) e)) Z).go s.ok gw2 fun c Z e=>lo (A:=d) (V.of (iE (dI V) e)) Z) (((dI fM).go o.ok s fun c Z e=>lo (A:=N) (av (fM.of (iE (dI fM) e))) Z).go s.ok gw2 fun c Z e=>lo (A:=N) (av (fM.of (iE (dI fM) e))) Z) (fun c e=>⟨V.of (iE (dI V) e),(dI V).lt g2.ok e⟩) (fun c e=>av (fM.of (iE (dI fM) e)));refine⟨ys.length-(j+1),ab,j+1,_,rfl,bk,?_,ae,T5,au pA,fun i a c h1 O=>?_⟩
  .repeat (refine aM.set ?_)
   refine aM.trans ?_ (K3.cY)
   repeat (refine aM.set ?_)
   refine aM.trans ?_ (K2.cY)
   exact aq
  rw[fL] at O;by_cases e:j=i;subst e;rw[bM rfl,bM ab] at O;cases O;rw[u9] at h1;cases h1;exact⟨fun _=>by simp only[YB.g,oy];rw[<-Ao _ _ (fun q:GP×SV=>eJ need q.1) (fun _=>rfl),<-Ao _ _ (fun q:GI×SV=>eW aI need q.1) (fun _=>rfl)];rfl,fun h=>ab⟩;rw[bU e] at O;obtain⟨a1,a2⟩:=H i a c h1 O;exact⟨fun h=>a1 ab,fun h=>a2 ab⟩
 .have:j=ys.length:=ab
  subst this;simp[Hd,xy,Wi];refine C _ _ zs ?_ T (Cy fun i=>?_)
  .exact aq
  unfold eG;rw[js,js,js];rcases Gf i ys.length with hi|hi;obtain⟨y,hy⟩:=aV ys i hi;obtain⟨z,hz⟩:=aV zs i (by rw[pA];exact hi);rw[hy,hz];simp only[Cx];rw[(H i y z hy hz).1 hi];rw[wY hi,wY (by rw[pA];exact hi)];rfl
def U4(dt:cr h0)(g0:ay aZ h0 h){name:ByteArray}{p aI:Int}(hB:qg h0 B bs)(D:aaD aI aB bs)(Z:∀b∈bs,GQ b)(DR:aB<1000000):bc FF 18 [.int .i64 aI,.agg ⟨aC name p aB B⟩] h (fun v h'=>∃need,tD aI bs aB need/\mQ name p aB (eG aI need bs) h v h'):=by
 have ok:=g0.ok;have dT:=aD.len hB;have LY:=D.E.n50;have r1:roomy aB=true:=by simp[roomy];omega
 have hz:jn [Value.bool false] aB=ja.flat (List.replicate aB false):=Ay ja false rfl aB;have n1:¬h.aw=h.aw+1:=ab
 have Q:¬h.aw=h.aw+1+1:=ab
 refine bc.of Cl ?_;unfold tS;simp[aC,r1,hz,n1,Q];refine aO.cut (fun h1=>ay aZ h h1/\h1.aw=h.aw+3/\(dg h1 h.aw (aC name p aB B))/\(dg h1 (h.aw+1) [.string ⟨⟨[]⟩⟩,.int .i64 0,.int .i64 0,.slice none 0 0])/\(dg h1 (h.aw+1+1) (ja.flat (List.replicate aB false)))) ?_ ?_;exact⟨(((ay.refl ok).new _ _).new _ _).new _ _,ae,⟨0,by simp[aC,n1,Q]⟩,⟨0,ae⟩,⟨0,ae⟩⟩;rintro h1⟨s,nx,⟨sF,hF⟩,⟨sR,hR⟩,hN⟩;have l0:=g0.aw;refine OG dt s.ok (nb:=h.aw+1+1) (F:=h.aw) (fun gx=>(g0.trans s).trans' gx ai fun c N e=>ab) hB D hF Q hN ae ae ae ae ?_;intro Y q need O m ⟨sN,Qy⟩ L;have k0:bH Y 0=.int .i64 aI:=O.at ae;have k3:cm Y 3 h.aw:=O.at ae;have k4:cm Y 4 (h.aw+1):=O.at ae;have k5:bH Y 5=.slice (some ⟨h.aw+1+1,0,none⟩) aB aB:=O.at ae;have jz:=m.get s.ok hF Q;have w_:=m.get s.ok hR ab;have jC:ay aZ h q:=s.trans' m ai fun c N e=>ab
 simp[aC] at jz;simp[k3,jz];refine bm.call (V:=mQ name p aB bs q) (by simpa [aC] using vK dt (g0.trans jC) (name:=name) (p:=p) (r:=aB) hB Z ab) ?_;rintro _ I⟨d,w,ys,rfl,W3,xi3,M3⟩;have Ew:=d.get m.ok w_;have hN3:=d.get m.ok Qy;simp[aC];refine aO.cut (fun h4=>ay aZ I h4/\dg h4 I.aw (aC name p aB w)) ⟨(ay.refl d.ok).var _ _,I.clock,by simp[bg,aC]⟩ ?_;rintro h4⟨j,sG,hG⟩;have W4:=W3.ck d.ok j;have l2:=jC.aw;have l3:=d.aw;have l4:=j.aw;have l23:=m.aw;have oG:¬cx w ys I.aw:=fun⟨l,e⟩=>av (W3.lt d.ok e)
 have low:∀c,c<q.aw->¬cx w ys c:=fun c N ⟨l,e⟩=>av (W3.new l c e)
 refine OH j.ok (n0:=q.aw) ab W4 (by have:=congrArg List.length M3;simp at this;omega) (fun y hy=>by
  have hb:y.g∈bs:=by rw[<-M3];exact EX hy
  obtain⟨a1,a2,_⟩:=D.b y.g hb;exact⟨D.I y.g hb,by simpa [YB.g] using a1,by simpa [YB.g] using a2⟩) hG oG (j.get d.ok hN3 fun h=>h) (low _ ab) L.nl (au k0) (au k5) ae ae ?_
 intro e5 h5 zs K5 W M5;have p4:cm e5 4 (h.aw+1):=K5.at (ak k4);have p13:cm e5 13 I.aw:=K5.at ae;have J:=W.g;have o:=J.get j.ok hG oG;have Ak:=J.get j.ok (j.get d.ok Ew fun h=>h) (low _ ab);simp[aC] at o;simp[p4,p13,o,Ak];have g6:=aY (off:=0) (vs:=[.string name,.int .i64 p,.int .i64 aB,w.v]) J.ok Ak;simp at g6;have g45:ay aZ q h5:=(d.trans j).trans' J ai fun c N e=>low c N e;refine⟨need,L,(jC.trans g45).trans' g6 ai (fun c N e=>ab),w,zs,by simp[aC],(W.w.go J.ok g6 (fun c l e hl=>av (W.w.new l c hl))).cY ab,W.x xi3,by rw[M5,M3]⟩
end Go.Proofs.YtdhnndleffachaaGreatDoor
